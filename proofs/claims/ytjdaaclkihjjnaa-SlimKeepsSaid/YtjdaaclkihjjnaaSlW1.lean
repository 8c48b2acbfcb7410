import Derived.Test.YtjdaaclkihjjnaaSlE
/-  What they are in the program: walks. -/
set_option linter.unusedVariables false
set_option linter.unusedSimpArgs false
namespace Go.AM
open Go Go.RowKit Go.Proofs

attribute [local irreducible] RunOps RunOpsL

theorem c_slices_Clone_api_Row {a0 : List api_Row} {r : List api_Row} (h : slices_Clone_api_Row a0 = some r) : SCall Try.prog 59 [.d (.vec (some 2) (List.map eapi_Row a0))] (stab []) 0 (.loc 0 0 r.length) (stab [(0, .lst true (some 2) (List.map eapi_Row r))]) 1 := by
  cases a0 with
  | nil =>
    refine SCall.empty ?_ ?_
    · have h : some ([] : List api_Row) = some r := by simpa [slices_Clone_api_Row, gapp] using h
      refine SCall.introN (bl := []) (bl' := [(0, .lst true (some 2) (List.map eapi_Row r))]) ok59 (show 1 ≤ 8 by decide) rfl ?_
      refine NWp.norm (s0 := ⟨tab [(0, .d (.nils))], stab [], 0⟩) (Norm.mk [] (by decide) (by decide) (by decide) ⟨.d _, trivial⟩ trivial) ?_
      refine NWp.opsJ ⟨tab [(0, .d (.nils))], stab [], 0⟩ ?_ ?_
      · refine step (v := .d (.nils)) rfl ?_
        exact RunOps.nil' (Norm.mk [] (by decide) (by decide) (by decide) ⟨.d _, trivial⟩ trivial)
      refine NWp.seq ?_
      refine NWp.opsJ ⟨tab [(0, .d (.nils)), (4, .d (.bool true))], stab [], 0⟩ ?_ ?_
      · refine step (v := .d (.nils)) rfl ?_
        refine step (v := .d (.bool true)) rfl ?_
        exact RunOps.nil' (Norm.mk [] (by decide) (by decide) (by decide) ⟨.d _, .d _, trivial⟩ trivial)
      refine NWp.condT (t := true) rfl rfl ?_
      refine NWp.opsJ ⟨tab [(2, .d (.nils))], stab [], 0⟩ ?_ ?_
      · refine step (v := .d (.nils)) rfl ?_
        exact RunOps.nil' (Norm.mk [] (by decide) (by decide) (by decide) ⟨.d _, trivial⟩ trivial)
      have hh := Option.some.inj h
      subst hh
      refine NWp.norm (s0 := ⟨tab [(2, .loc 0 0 (([] : List api_Row).length))], stab [(0, .lst true (some 2) (List.map eapi_Row ([] : List api_Row)))], 1⟩) (Norm.trans (s2 := ⟨tab [(2, .loc 0 0 (([] : List api_Row).length))], stab [(0, .lst true (some 2) (List.map eapi_Row ([] : List api_Row)))], 1⟩) (Norm.nil1 2 true (some 2) rfl) (Norm.mk [0] (by decide) (by decide) (by decide) ⟨.loc 0 _ _ (show 0 < 1 by decide), trivial⟩ ⟨⟨show 0 < 1 by decide, _, rfl, .lst _ _ _⟩, trivial⟩)) ?_
      refine NWp.ret ?_
      exact ⟨.inr rfl, _, rfl, rfl, AllS.sub ⟨rfl, trivial⟩, rfl⟩
    · refine SCall.introN (bl := []) (bl' := [(0, .lst true (some 2) (List.map eapi_Row r))]) ok59 (show 1 ≤ 8 by decide) rfl ?_
      refine NWp.norm (s0 := ⟨tab [(0, .mapr 0)], stab [], 0⟩) (Norm.mk [] (by decide) (by decide) (by decide) ⟨.mp _, trivial⟩ trivial) ?_
      refine NWp.opsJ ⟨tab [(0, .mapr 0)], stab [], 0⟩ ?_ ?_
      · refine step (v := .d (.nils)) rfl ?_
        exact RunOps.nil' (Norm.mk [] (by decide) (by decide) (by decide) ⟨.mp _, trivial⟩ trivial)
      refine NWp.seq ?_
      refine NWp.opsJ ⟨tab [(0, .d (eL (some 2) eapi_Row ([] : List api_Row))), (4, .d (.bool false))], stab [], 0⟩ ?_ ?_
      · refine step (v := .mapr 0) rfl ?_
        refine step (v := .d (.bool false)) rfl ?_
        exact RunOps.nil' (Norm.mk [] (by decide) (by decide) (by decide) ⟨.nne _ _, .d _, trivial⟩ trivial)
      refine NWp.condF (t := false) rfl (by decide) ?_
      refine NWp.skip ?_
      obtain ⟨l1, hl1, h⟩ := bindE h
      refine NWp.opsJ ⟨tab [(2, .loc 0 0 l1.length)], stab [(0, .lst true (some 2) (List.map eapi_Row l1))], 1⟩ ?_ ?_
      · refine step (v := .loc 0 0 (([] : List api_Row).length)) (σ' := (upd (stab []) 0 (some (.lst true (some 2) (List.map eapi_Row ([] : List api_Row)))))) (n' := 1) rfl ?_
        refine step (v := .d (eL (some 2) eapi_Row ([] : List api_Row))) rfl ?_
        refine step (v := .loc 1 0 l1.length) (σ' := (upd (upd (upd (stab []) 0 (some (.lst true (some 2) (List.map eapi_Row ([] : List api_Row))))) 0 none) 1 (some (.lst true (some 2) (List.map eapi_Row l1))))) (n' := 2) (st_app (xs := ([] : List api_Row)) (ys := ([] : List api_Row)) (e := eapi_Row) hl1 rfl rfl rfl (src_v (xs := ([] : List api_Row)) (e := eapi_Row) rfl)) ?_
        refine step (v := .loc 1 0 l1.length) rfl ?_
        exact RunOps.nil' (Norm.mk [1] (by decide) (by decide) (by decide) ⟨.loc 0 _ _ (show 0 < 1 by decide), trivial⟩ ⟨⟨show 0 < 1 by decide, _, rfl, .lst _ _ _⟩, trivial⟩)
      have hh := Option.some.inj h
      subst hh
      refine NWp.ret ?_
      exact ⟨.inr rfl, _, rfl, rfl, AllS.sub ⟨rfl, trivial⟩, rfl⟩
  | cons x xs =>
    refine SCall.introN (bl := []) (bl' := [(0, .lst true (some 2) (List.map eapi_Row r))]) ok59 (show 1 ≤ 8 by decide) rfl ?_
    refine NWp.norm (s0 := ⟨tab [(0, .d (eL (some 2) eapi_Row (x :: xs)))], stab [], 0⟩) (Norm.mk [] (by decide) (by decide) (by decide) ⟨.d _, trivial⟩ trivial) ?_
    refine NWp.opsJ ⟨tab [(0, .d (eL (some 2) eapi_Row (x :: xs)))], stab [], 0⟩ ?_ ?_
    · refine step (v := .d (.nils)) rfl ?_
      exact RunOps.nil' (Norm.mk [] (by decide) (by decide) (by decide) ⟨.d _, trivial⟩ trivial)
    refine NWp.seq ?_
    refine NWp.opsJ ⟨tab [(0, .d (eL (some 2) eapi_Row (x :: xs))), (4, .d (.bool false))], stab [], 0⟩ ?_ ?_
    · refine step (v := .d (eL (some 2) eapi_Row (x :: xs))) rfl ?_
      refine step (v := .d (.bool false)) rfl ?_
      exact RunOps.nil' (Norm.mk [] (by decide) (by decide) (by decide) ⟨.d _, .d _, trivial⟩ trivial)
    refine NWp.condF (t := false) rfl (by decide) ?_
    refine NWp.skip ?_
    obtain ⟨l1, hl1, h⟩ := bindE h
    refine NWp.opsJ ⟨tab [(2, .loc 0 0 l1.length)], stab [(0, .lst true (some 2) (List.map eapi_Row l1))], 1⟩ ?_ ?_
    · refine step (v := .loc 0 0 (([] : List api_Row).length)) (σ' := (upd (stab []) 0 (some (.lst true (some 2) (List.map eapi_Row ([] : List api_Row)))))) (n' := 1) rfl ?_
      refine step (v := .d (eL (some 2) eapi_Row (x :: xs))) rfl ?_
      refine step (v := .loc 1 0 l1.length) (σ' := (upd (upd (upd (stab []) 0 (some (.lst true (some 2) (List.map eapi_Row ([] : List api_Row))))) 0 none) 1 (some (.lst true (some 2) (List.map eapi_Row l1))))) (n' := 2) (st_app (xs := ([] : List api_Row)) (ys := (x :: xs)) (e := eapi_Row) hl1 rfl rfl rfl (src_v (xs := (x :: xs)) (e := eapi_Row) rfl)) ?_
      refine step (v := .loc 1 0 l1.length) rfl ?_
      exact RunOps.nil' (Norm.mk [1] (by decide) (by decide) (by decide) ⟨.loc 0 _ _ (show 0 < 1 by decide), trivial⟩ ⟨⟨show 0 < 1 by decide, _, rfl, .lst _ _ _⟩, trivial⟩)
    have hh := Option.some.inj h
    subst hh
    refine NWp.ret ?_
    exact ⟨.inr rfl, _, rfl, rfl, AllS.sub ⟨rfl, trivial⟩, rfl⟩

theorem c_slices_Index_api_Pair {a0 : (List api_Pair)} {a1 : api_Pair} {r : Int} (h : slices_Index_api_Pair a0 a1 = some r) : PCall Try.prog 78 [eL (some 2) eapi_Pair a0, eapi_Pair a1] (.int .i64 r) := by
  refine PCall.introN ok78 (show 2 ≤ 19 by decide) ?_
  refine NWp.norm (s0 := ⟨tab [(0, .d (eL (some 2) eapi_Pair a0)), (1, .d (eapi_Pair a1))], stab [], 0⟩) (Norm.mk [] (by decide) (by decide) (by decide) ⟨.d _, .d _, trivial⟩ trivial) ?_
  refine NWp.opsJ ⟨tab [(0, .d (eL (some 2) eapi_Pair a0)), (3, .d (.cptr (some 2) (eapi_Pair a1) 0))], stab [], 0⟩ ?_ ?_
  · refine step (v := .d (.cptr (some 2) (eapi_Pair a1) 0)) rfl ?_
    refine step (v := .d (.int .i64 0)) rfl ?_
    exact RunOps.nil' (Norm.mk [] (by decide) (by decide) (by decide) ⟨.d _, .d _, trivial⟩ trivial)
  refine NWp.seq ?_
  refine NWp.opsJ ⟨tab [(0, .d (eL (some 2) eapi_Pair a0)), (3, .d (.cptr (some 2) (eapi_Pair a1) 0)), (7, .d (.int .i64 (a0.length : Int))), (8, .d (.int .i64 0))], stab [], 0⟩ ?_ ?_
  · refine step (v := .d (eL (some 2) eapi_Pair a0)) rfl ?_
    refine step (v := .d (.int .i64 (a0.length : Int))) (st_len (xs := a0) (e := eapi_Pair) rfl) ?_
    refine step (v := .d (.int .i64 0)) rfl ?_
    exact RunOps.nil' (Norm.mk [] (by decide) (by decide) (by decide) ⟨.d _, .d _, .d _, .d _, trivial⟩ trivial)
  obtain ⟨q9, hl, h⟩ := bindE h
  refine NWp.block ?_
  refine loop_forR (cntU (a0.length : Int)) (fun (i1 : Int) (qq : Unit) => ⟨tab [(0, .d (eL (some 2) eapi_Pair a0)), (3, .d (.cptr (some 2) (eapi_Pair a1) 0)), (7, .d (.int .i64 (a0.length : Int))), (8, .d (.int .i64 i1))], stab [], 0⟩) 0 (fun (qq : Unit) => ⟨tab [], stab [], 0⟩) Low low_step (r := r) hl (by unfold Low; omega) ?_ ?_ ?_ ?_
  · rintro i1 ⟨⟩ xr6 hinv4 hgo3 h
    show NWp _ _ _ _ _ ⟨tab [(0, .d (eL (some 2) eapi_Pair a0)), (3, .d (.cptr (some 2) (eapi_Pair a1) 0)), (7, .d (.int .i64 (a0.length : Int))), (8, .d (.int .i64 i1))], stab [], 0⟩
    have hc5 : decide (i1 < (a0.length : Int)) = true := decide_eq_true hgo3
    refine NWp.opsJ ⟨tab [(0, .d (eL (some 2) eapi_Pair a0)), (3, .d (.cptr (some 2) (eapi_Pair a1) 0)), (7, .d (.int .i64 (a0.length : Int))), (8, .d (.int .i64 i1)), (9, .d (.bool (decide (i1 < (a0.length : Int)))))], stab [], 0⟩ ?_ ?_
    · refine step (v := .d (.bool (decide (i1 < (a0.length : Int))))) rfl ?_
      exact RunOps.nil' (Norm.mk [] (by decide) (by decide) (by decide) ⟨.d _, .d _, .d _, .d _, .d _, trivial⟩ trivial)
    refine NWp.rng 7 rfl fun hB2 => ?_
    refine NWp.seq ?_
    refine NWp.condT (t := decide (i1 < (a0.length : Int))) rfl hc5 ?_
    refine NWp.skip ?_
    refine NWp.seq ?_
    refine NWp.block ?_
    refine NWp.opsJ ⟨tab [(0, .d (eL (some 2) eapi_Pair a0)), (3, .d (.cptr (some 2) (eapi_Pair a1) 0)), (5, .d (.int .i64 i1)), (7, .d (.int .i64 (a0.length : Int))), (8, .d (.int .i64 i1))], stab [], 0⟩ ?_ ?_
    · refine step (v := .d (.int .i64 i1)) rfl ?_
      refine step (v := .d (.int .i64 i1)) rfl ?_
      exact RunOps.nil' (Norm.mk [] (by decide) (by decide) (by decide) ⟨.d _, .d _, .d _, .d _, .d _, trivial⟩ trivial)
    obtain ⟨x7, hx7, h⟩ := bindE h
    refine NWp.opsJ ⟨tab [(0, .d (eL (some 2) eapi_Pair a0)), (3, .d (.cptr (some 2) (eapi_Pair a1) 0)), (5, .d (.int .i64 i1)), (7, .d (.int .i64 (a0.length : Int))), (8, .d (.int .i64 i1)), (16, .d (.bool (a1 == x7)))], stab [], 0⟩ ?_ ?_
    · refine step (v := .d (eapi_Pair a1)) rfl ?_
      refine step (v := .d (eL (some 2) eapi_Pair a0)) rfl ?_
      refine step (v := .d (.int .i64 i1)) rfl ?_
      refine step (v := .d (.cptr (some 2) (eapi_Pair x7) 0)) (st_iaddr (xs := a0) (e := eapi_Pair) hx7 rfl rfl) ?_
      refine step (v := .d (eapi_Pair x7)) rfl ?_
      refine step (v := .d (.bool (a1 == x7))) (st_eqS (neg := false) rfl rfl (eqS_api_Pair a1 x7)) ?_
      exact RunOps.nil' (Norm.mk [] (by decide) (by decide) (by decide) ⟨.d _, .d _, .d _, .d _, .d _, .d _, trivial⟩ trivial)
    by_cases hc8 : (a1 == x7) = true
    · replace h := iteT hc8 h
      refine NWp.condT (t := (a1 == x7)) rfl hc8 ?_
      refine NWp.opsJ ⟨tab [(4, .d (.int .i64 i1))], stab [], 0⟩ ?_ ?_
      · refine step (v := .d (.int .i64 i1)) rfl ?_
        refine step (v := .d (.int .i64 i1)) rfl ?_
        exact RunOps.nil' (Norm.mk [] (by decide) (by decide) (by decide) ⟨.d _, trivial⟩ trivial)
      obtain ⟨r9, kr9, hr⟩ := mapE (o := some i1) (g := Br.ret) h
      subst hr
      have h := kr9
      have hh := Option.some.inj h
      subst hh
      refine NWp.ret ?_
      refine And.intro (fun hn => nomatch hn) ?_
      intro hq
      have hq := hq.symm
      subst hq
      show FQ _ _ _ _
      exact FQ.mk1 (.inr rfl) (res_t (v := .d (.int .i64 i1)) rfl rfl) (RV.d trivial)
    · replace h := iteF hc8 h
      refine NWp.condF (t := (a1 == x7)) rfl hc8 ?_
      refine NWp.skip ?_
      have hh := Option.some.inj h
      subst hh
      refine NWp.opsE ⟨tab [(0, .d (eL (some 2) eapi_Pair a0)), (3, .d (.cptr (some 2) (eapi_Pair a1) 0)), (7, .d (.int .i64 (a0.length : Int))), (8, .d (.int .i64 (i1 + 1)))], stab [], 0⟩ ?_ ?_
      · refine step (v := .d (.int .i64 (i1 + 1))) (st_inc (inc_ok hinv4 hgo3 hB2) rfl rfl) ?_
        refine step (v := .d (.int .i64 (i1 + 1))) rfl ?_
        exact RunOps.nil' (Norm.mk [] (by decide) (by decide) (by decide) ⟨.d _, .d _, .d _, .d _, trivial⟩ trivial)
      exact And.intro rfl rfl
  · rintro i1 ⟨⟩ hinv4 hgo3
    show NWp _ _ _ _ _ ⟨tab [(0, .d (eL (some 2) eapi_Pair a0)), (3, .d (.cptr (some 2) (eapi_Pair a1) 0)), (7, .d (.int .i64 (a0.length : Int))), (8, .d (.int .i64 i1))], stab [], 0⟩
    have hc5 : ¬ (decide (i1 < (a0.length : Int)) = true) := fun hq => hgo3 (of_decide_eq_true hq)
    refine NWp.opsJ ⟨tab [(0, .d (eL (some 2) eapi_Pair a0)), (3, .d (.cptr (some 2) (eapi_Pair a1) 0)), (7, .d (.int .i64 (a0.length : Int))), (8, .d (.int .i64 i1)), (9, .d (.bool (decide (i1 < (a0.length : Int)))))], stab [], 0⟩ ?_ ?_
    · refine step (v := .d (.bool (decide (i1 < (a0.length : Int))))) rfl ?_
      exact RunOps.nil' (Norm.mk [] (by decide) (by decide) (by decide) ⟨.d _, .d _, .d _, .d _, .d _, trivial⟩ trivial)
    refine NWp.seq ?_
    refine NWp.condF (t := decide (i1 < (a0.length : Int))) rfl hc5 ?_
    refine NWp.norm (s0 := ⟨tab [], stab [], 0⟩) (Norm.mk [] (by decide) (by decide) (by decide) trivial trivial) ?_
    refine NWp.exit ?_
    exact And.intro rfl rfl
  · intro r' hq
    subst hq
    exact Option.some.inj h
  rintro ⟨⟩ rfl
  refine NWp.opsJ ⟨tab [(4, .d (.int .i64 (-1)))], stab [], 0⟩ ?_ ?_
  · refine step (v := .d (.int .i64 (-1))) rfl ?_
    exact RunOps.nil' (Norm.mk [] (by decide) (by decide) (by decide) ⟨.d _, trivial⟩ trivial)
  have hh := Option.some.inj h
  subst hh
  refine NWp.ret ?_
  show FQ _ _ _ _
  exact FQ.mk1 (.inr rfl) (res_t (v := .d (.int .i64 (-1))) rfl rfl) (RV.d trivial)

theorem c_slices_Contains_api_Pair {a0 : (List api_Pair)} {a1 : api_Pair} {r : Bool} (h : slices_Contains_api_Pair a0 a1 = some r) : PCall Try.prog 73 [eL (some 2) eapi_Pair a0, eapi_Pair a1] (.bool r) := by
  refine PCall.introN ok73 (show 2 ≤ 9 by decide) ?_
  refine NWp.norm (s0 := ⟨tab [(0, .d (eL (some 2) eapi_Pair a0)), (1, .d (eapi_Pair a1))], stab [], 0⟩) (Norm.mk [] (by decide) (by decide) (by decide) ⟨.d _, .d _, trivial⟩ trivial) ?_
  refine NWp.opsJ ⟨tab [(0, .d (eL (some 2) eapi_Pair a0)), (3, .d (.cptr (some 2) (eapi_Pair a1) 0))], stab [], 0⟩ ?_ ?_
  · refine step (v := .d (.cptr (some 2) (eapi_Pair a1) 0)) rfl ?_
    refine step (v := .d (.bool false)) rfl ?_
    exact RunOps.nil' (Norm.mk [] (by decide) (by decide) (by decide) ⟨.d _, .d _, trivial⟩ trivial)
  obtain ⟨r1, hr1, h⟩ := bindE h
  refine NWp.opsJ ⟨tab [(4, .d (.bool (decide (r1 ≥ 0))))], stab [], 0⟩ ?_ ?_
  · refine step (v := .d (eL (some 2) eapi_Pair a0)) rfl ?_
    refine step (v := .d (eapi_Pair a1)) rfl ?_
    refine stepC (r := .int .i64 r1) (ArgsOk.dt (ArgsOk.dt ArgsOk.nil')) (c_slices_Index_api_Pair hr1) ?_
    refine step (v := .d (.bool (decide (r1 ≥ 0)))) rfl ?_
    refine step (v := .d (.bool (decide (r1 ≥ 0)))) rfl ?_
    exact RunOps.nil' (Norm.mk [] (by decide) (by decide) (by decide) ⟨.d _, trivial⟩ trivial)
  have hh := Option.some.inj h
  subst hh
  refine NWp.ret ?_
  show FQ _ _ _ _
  exact FQ.mk1 (.inr rfl) (res_t (v := .d (.bool (decide (r1 ≥ 0)))) rfl rfl) (RV.d trivial)

theorem c_table_Covers_1 {a0 : api_Pair} {a1 : api_Row} {r : Bool} (h : table_Covers_1 a0 a1 = some r) : PCall Try.prog 72 [eapi_Pair a0, .cptr (some 2) (eapi_Row a1) 0] (.bool r) := by
  refine PCall.introN ok72 (show 2 ≤ 9 by decide) ?_
  refine NWp.norm (s0 := ⟨tab [(0, .d (eapi_Pair a0)), (1, .d (.cptr (some 2) (eapi_Row a1) 0))], stab [], 0⟩) (Norm.mk [] (by decide) (by decide) (by decide) ⟨.d _, .d _, trivial⟩ trivial) ?_
  refine NWp.opsJ ⟨tab [(1, .d (.cptr (some 2) (eapi_Row a1) 0)), (2, .d (.cptr (some 2) (eapi_Pair a0) 0))], stab [], 0⟩ ?_ ?_
  · refine step (v := .d (.cptr (some 2) (eapi_Pair a0) 0)) rfl ?_
    refine step (v := .d (.bool false)) rfl ?_
    exact RunOps.nil' (Norm.mk [] (by decide) (by decide) (by decide) ⟨.d _, .d _, trivial⟩ trivial)
  obtain ⟨r1, hr1, h⟩ := bindE h
  refine NWp.opsJ ⟨tab [(3, .d (.bool (!r1)))], stab [], 0⟩ ?_ ?_
  · refine step (v := .d (.cptr (some 2) (eapi_Row a1) 0)) rfl ?_
    refine step (v := .d (eL (some 2) eapi_Pair a1.Match)) rfl ?_
    refine step (v := .d (eapi_Pair a0)) rfl ?_
    refine stepC (r := .bool r1) (ArgsOk.dt (ArgsOk.dt ArgsOk.nil')) (c_slices_Contains_api_Pair hr1) ?_
    refine step (v := .d (.bool (!r1))) rfl ?_
    refine step (v := .d (.bool (!r1))) rfl ?_
    exact RunOps.nil' (Norm.mk [] (by decide) (by decide) (by decide) ⟨.d _, trivial⟩ trivial)
  have hh := Option.some.inj h
  subst hh
  refine NWp.ret ?_
  show FQ _ _ _ _
  exact FQ.mk1 (.inr rfl) (res_t (v := .d (.bool (!r1))) rfl rfl) (RV.d trivial)

theorem c_slices_IndexFunc_api_Pair {a0 : (List api_Pair)} {a1 : api_Pair → Option Bool} {g_a1 : D} (hf_a1 : Fn1 Try.prog g_a1 eapi_Pair D.bool a1) {r : Int} (h : slices_IndexFunc_api_Pair a0 a1 = some r) : PCall Try.prog 68 [eL (some 2) eapi_Pair a0, g_a1] (.int .i64 r) := by
  obtain ⟨fn_a1, cap_a1, rfl, hc_a1⟩ := hf_a1
  refine PCall.introN ok68 (show 2 ≤ 19 by decide) ?_
  refine NWp.norm (s0 := ⟨tab [(0, .d (eL (some 2) eapi_Pair a0)), (1, .d (.func fn_a1 cap_a1))], stab [], 0⟩) (Norm.mk [] (by decide) (by decide) (by decide) ⟨.d _, .d _, trivial⟩ trivial) ?_
  refine NWp.opsJ ⟨tab [(0, .d (eL (some 2) eapi_Pair a0)), (1, .d (.func fn_a1 cap_a1))], stab [], 0⟩ ?_ ?_
  · refine step (v := .d (.int .i64 0)) rfl ?_
    exact RunOps.nil' (Norm.mk [] (by decide) (by decide) (by decide) ⟨.d _, .d _, trivial⟩ trivial)
  refine NWp.seq ?_
  refine NWp.opsJ ⟨tab [(0, .d (eL (some 2) eapi_Pair a0)), (1, .d (.func fn_a1 cap_a1)), (7, .d (.int .i64 (a0.length : Int))), (8, .d (.int .i64 0))], stab [], 0⟩ ?_ ?_
  · refine step (v := .d (eL (some 2) eapi_Pair a0)) rfl ?_
    refine step (v := .d (.int .i64 (a0.length : Int))) (st_len (xs := a0) (e := eapi_Pair) rfl) ?_
    refine step (v := .d (.int .i64 0)) rfl ?_
    exact RunOps.nil' (Norm.mk [] (by decide) (by decide) (by decide) ⟨.d _, .d _, .d _, .d _, trivial⟩ trivial)
  obtain ⟨q10, hl, h⟩ := bindE h
  refine NWp.block ?_
  refine loop_forR (cntU (a0.length : Int)) (fun (i1 : Int) (qq : Unit) => ⟨tab [(0, .d (eL (some 2) eapi_Pair a0)), (1, .d (.func fn_a1 cap_a1)), (7, .d (.int .i64 (a0.length : Int))), (8, .d (.int .i64 i1))], stab [], 0⟩) 0 (fun (qq : Unit) => ⟨tab [], stab [], 0⟩) Low low_step (r := r) hl (by unfold Low; omega) ?_ ?_ ?_ ?_
  · rintro i1 ⟨⟩ xr6 hinv4 hgo3 h
    show NWp _ _ _ _ _ ⟨tab [(0, .d (eL (some 2) eapi_Pair a0)), (1, .d (.func fn_a1 cap_a1)), (7, .d (.int .i64 (a0.length : Int))), (8, .d (.int .i64 i1))], stab [], 0⟩
    have hc5 : decide (i1 < (a0.length : Int)) = true := decide_eq_true hgo3
    refine NWp.opsJ ⟨tab [(0, .d (eL (some 2) eapi_Pair a0)), (1, .d (.func fn_a1 cap_a1)), (7, .d (.int .i64 (a0.length : Int))), (8, .d (.int .i64 i1)), (9, .d (.bool (decide (i1 < (a0.length : Int)))))], stab [], 0⟩ ?_ ?_
    · refine step (v := .d (.bool (decide (i1 < (a0.length : Int))))) rfl ?_
      exact RunOps.nil' (Norm.mk [] (by decide) (by decide) (by decide) ⟨.d _, .d _, .d _, .d _, .d _, trivial⟩ trivial)
    refine NWp.rng 7 rfl fun hB2 => ?_
    refine NWp.seq ?_
    refine NWp.condT (t := decide (i1 < (a0.length : Int))) rfl hc5 ?_
    refine NWp.skip ?_
    refine NWp.seq ?_
    refine NWp.block ?_
    refine NWp.opsJ ⟨tab [(0, .d (eL (some 2) eapi_Pair a0)), (1, .d (.func fn_a1 cap_a1)), (5, .d (.int .i64 i1)), (7, .d (.int .i64 (a0.length : Int))), (8, .d (.int .i64 i1))], stab [], 0⟩ ?_ ?_
    · refine step (v := .d (.int .i64 i1)) rfl ?_
      refine step (v := .d (.int .i64 i1)) rfl ?_
      exact RunOps.nil' (Norm.mk [] (by decide) (by decide) (by decide) ⟨.d _, .d _, .d _, .d _, .d _, trivial⟩ trivial)
    obtain ⟨x7, hx7, h⟩ := bindE h
    obtain ⟨x8, hx8, h⟩ := bindE h
    refine NWp.opsJ ⟨tab [(0, .d (eL (some 2) eapi_Pair a0)), (1, .d (.func fn_a1 cap_a1)), (5, .d (.int .i64 i1)), (7, .d (.int .i64 (a0.length : Int))), (8, .d (.int .i64 i1)), (16, .d (.bool x8))], stab [], 0⟩ ?_ ?_
    · refine step (v := .d (.func fn_a1 cap_a1)) rfl ?_
      refine step (v := .d (eL (some 2) eapi_Pair a0)) rfl ?_
      refine step (v := .d (.int .i64 i1)) rfl ?_
      refine step (v := .d (.cptr (some 2) (eapi_Pair x7) 0)) (st_iaddr (xs := a0) (e := eapi_Pair) hx7 rfl rfl) ?_
      refine step (v := .d (eapi_Pair x7)) rfl ?_
      refine stepV' (r := .bool x8) rfl (ArgsOk.dt ArgsOk.nil') (hc_a1 _ _ hx8) ?_
      exact RunOps.nil' (Norm.mk [] (by decide) (by decide) (by decide) ⟨.d _, .d _, .d _, .d _, .d _, .d _, trivial⟩ trivial)
    by_cases hc9 : x8 = true
    · replace h := iteT hc9 h
      refine NWp.condT (t := x8) rfl hc9 ?_
      refine NWp.opsJ ⟨tab [(4, .d (.int .i64 i1))], stab [], 0⟩ ?_ ?_
      · refine step (v := .d (.int .i64 i1)) rfl ?_
        refine step (v := .d (.int .i64 i1)) rfl ?_
        exact RunOps.nil' (Norm.mk [] (by decide) (by decide) (by decide) ⟨.d _, trivial⟩ trivial)
      obtain ⟨r10, kr10, hr⟩ := mapE (o := some i1) (g := Br.ret) h
      subst hr
      have h := kr10
      have hh := Option.some.inj h
      subst hh
      refine NWp.ret ?_
      refine And.intro (fun hn => nomatch hn) ?_
      intro hq
      have hq := hq.symm
      subst hq
      show FQ _ _ _ _
      exact FQ.mk1 (.inr rfl) (res_t (v := .d (.int .i64 i1)) rfl rfl) (RV.d trivial)
    · replace h := iteF hc9 h
      refine NWp.condF (t := x8) rfl hc9 ?_
      refine NWp.skip ?_
      have hh := Option.some.inj h
      subst hh
      refine NWp.opsE ⟨tab [(0, .d (eL (some 2) eapi_Pair a0)), (1, .d (.func fn_a1 cap_a1)), (7, .d (.int .i64 (a0.length : Int))), (8, .d (.int .i64 (i1 + 1)))], stab [], 0⟩ ?_ ?_
      · refine step (v := .d (.int .i64 (i1 + 1))) (st_inc (inc_ok hinv4 hgo3 hB2) rfl rfl) ?_
        refine step (v := .d (.int .i64 (i1 + 1))) rfl ?_
        exact RunOps.nil' (Norm.mk [] (by decide) (by decide) (by decide) ⟨.d _, .d _, .d _, .d _, trivial⟩ trivial)
      exact And.intro rfl rfl
  · rintro i1 ⟨⟩ hinv4 hgo3
    show NWp _ _ _ _ _ ⟨tab [(0, .d (eL (some 2) eapi_Pair a0)), (1, .d (.func fn_a1 cap_a1)), (7, .d (.int .i64 (a0.length : Int))), (8, .d (.int .i64 i1))], stab [], 0⟩
    have hc5 : ¬ (decide (i1 < (a0.length : Int)) = true) := fun hq => hgo3 (of_decide_eq_true hq)
    refine NWp.opsJ ⟨tab [(0, .d (eL (some 2) eapi_Pair a0)), (1, .d (.func fn_a1 cap_a1)), (7, .d (.int .i64 (a0.length : Int))), (8, .d (.int .i64 i1)), (9, .d (.bool (decide (i1 < (a0.length : Int)))))], stab [], 0⟩ ?_ ?_
    · refine step (v := .d (.bool (decide (i1 < (a0.length : Int))))) rfl ?_
      exact RunOps.nil' (Norm.mk [] (by decide) (by decide) (by decide) ⟨.d _, .d _, .d _, .d _, .d _, trivial⟩ trivial)
    refine NWp.seq ?_
    refine NWp.condF (t := decide (i1 < (a0.length : Int))) rfl hc5 ?_
    refine NWp.norm (s0 := ⟨tab [], stab [], 0⟩) (Norm.mk [] (by decide) (by decide) (by decide) trivial trivial) ?_
    refine NWp.exit ?_
    exact And.intro rfl rfl
  · intro r' hq
    subst hq
    exact Option.some.inj h
  rintro ⟨⟩ rfl
  refine NWp.opsJ ⟨tab [(4, .d (.int .i64 (-1)))], stab [], 0⟩ ?_ ?_
  · refine step (v := .d (.int .i64 (-1))) rfl ?_
    exact RunOps.nil' (Norm.mk [] (by decide) (by decide) (by decide) ⟨.d _, trivial⟩ trivial)
  have hh := Option.some.inj h
  subst hh
  refine NWp.ret ?_
  show FQ _ _ _ _
  exact FQ.mk1 (.inr rfl) (res_t (v := .d (.int .i64 (-1))) rfl rfl) (RV.d trivial)

theorem c_slices_ContainsFunc_api_Pair {a0 : (List api_Pair)} {a1 : api_Pair → Option Bool} {g_a1 : D} (hf_a1 : Fn1 Try.prog g_a1 eapi_Pair D.bool a1) {r : Bool} (h : slices_ContainsFunc_api_Pair a0 a1 = some r) : PCall Try.prog 55 [eL (some 2) eapi_Pair a0, g_a1] (.bool r) := by
  obtain ⟨fn_a1, cap_a1, rfl, hc_a1⟩ := hf_a1
  refine PCall.introN ok55 (show 2 ≤ 9 by decide) ?_
  refine NWp.norm (s0 := ⟨tab [(0, .d (eL (some 2) eapi_Pair a0)), (1, .d (.func fn_a1 cap_a1))], stab [], 0⟩) (Norm.mk [] (by decide) (by decide) (by decide) ⟨.d _, .d _, trivial⟩ trivial) ?_
  refine NWp.opsJ ⟨tab [(0, .d (eL (some 2) eapi_Pair a0)), (1, .d (.func fn_a1 cap_a1))], stab [], 0⟩ ?_ ?_
  · refine step (v := .d (.bool false)) rfl ?_
    exact RunOps.nil' (Norm.mk [] (by decide) (by decide) (by decide) ⟨.d _, .d _, trivial⟩ trivial)
  obtain ⟨r1, hr1, h⟩ := bindE h
  refine NWp.opsJ ⟨tab [(4, .d (.bool (decide (r1 ≥ 0))))], stab [], 0⟩ ?_ ?_
  · refine step (v := .d (eL (some 2) eapi_Pair a0)) rfl ?_
    refine step (v := .d (.func fn_a1 cap_a1)) rfl ?_
    refine stepC (r := .int .i64 r1) (ArgsOk.dt (ArgsOk.dt ArgsOk.nil')) (c_slices_IndexFunc_api_Pair ⟨_, _, rfl, hc_a1⟩ hr1) ?_
    refine step (v := .d (.bool (decide (r1 ≥ 0)))) rfl ?_
    refine step (v := .d (.bool (decide (r1 ≥ 0)))) rfl ?_
    exact RunOps.nil' (Norm.mk [] (by decide) (by decide) (by decide) ⟨.d _, trivial⟩ trivial)
  have hh := Option.some.inj h
  subst hh
  refine NWp.ret ?_
  show FQ _ _ _ _
  exact FQ.mk1 (.inr rfl) (res_t (v := .d (.bool (decide (r1 ≥ 0)))) rfl rfl) (RV.d trivial)

theorem c_table_Covers {a0 : api_Row} {a1 : api_Row} {r : Bool} (h : table_Covers a0 a1 = some r) : PCall Try.prog 65 [eapi_Row a0, eapi_Row a1] (.bool r) := by
  refine PCall.introN ok65 (show 2 ≤ 10 by decide) ?_
  refine NWp.norm (s0 := ⟨tab [(0, .d (eapi_Row a0)), (1, .d (eapi_Row a1))], stab [], 0⟩) (Norm.mk [] (by decide) (by decide) (by decide) ⟨.d _, .d _, trivial⟩ trivial) ?_
  refine NWp.opsJ ⟨tab [(2, .d (.cptr (some 2) (eapi_Row a0) 0)), (3, .d (.cptr (some 2) (eapi_Row a1) 0))], stab [], 0⟩ ?_ ?_
  · refine step (v := .d (.cptr (some 2) (eapi_Row a0) 0)) rfl ?_
    refine step (v := .d (.cptr (some 2) (eapi_Row a1) 0)) rfl ?_
    refine step (v := .d (.bool false)) rfl ?_
    exact RunOps.nil' (Norm.mk [] (by decide) (by decide) (by decide) ⟨.d _, .d _, trivial⟩ trivial)
  obtain ⟨r1, hr1, h⟩ := bindE h
  refine NWp.opsJ ⟨tab [(4, .d (.bool (!r1)))], stab [], 0⟩ ?_ ?_
  · refine step (v := .d (.cptr (some 2) (eapi_Row a0) 0)) rfl ?_
    refine step (v := .d (eL (some 2) eapi_Pair a0.Match)) rfl ?_
    refine step (v := .d (.func 72 [.cptr (some 2) (eapi_Row a1) 0])) rfl ?_
    refine stepC (r := .bool r1) (ArgsOk.dt (ArgsOk.dt ArgsOk.nil')) (c_slices_ContainsFunc_api_Pair ⟨72, [.cptr (some 2) (eapi_Row a1) 0], rfl, fun _ _ h => c_table_Covers_1 h⟩ hr1) ?_
    refine step (v := .d (.bool (!r1))) rfl ?_
    refine step (v := .d (.bool (!r1))) rfl ?_
    exact RunOps.nil' (Norm.mk [] (by decide) (by decide) (by decide) ⟨.d _, trivial⟩ trivial)
  have hh := Option.some.inj h
  subst hh
  refine NWp.ret ?_
  show FQ _ _ _ _
  exact FQ.mk1 (.inr rfl) (res_t (v := .d (.bool (!r1))) rfl rfl) (RV.d trivial)

theorem c_slim_covered_1 {a0 : api_Row} {a1 : (List api_Row)} {a2 : Int} {r : Bool} (h : slim_covered_1 a0 a1 a2 = some r) : PCall Try.prog 64 [eapi_Row a0, .cptr none (eL (some 2) eapi_Row a1) 0, .cptr none (.int .i64 a2) 0] (.bool r) := by
  refine PCall.introN ok64 (show 3 ≤ 11 by decide) ?_
  refine NWp.norm (s0 := ⟨tab [(0, .d (eapi_Row a0)), (1, .d (.cptr none (eL (some 2) eapi_Row a1) 0)), (2, .d (.cptr none (.int .i64 a2) 0))], stab [], 0⟩) (Norm.mk [] (by decide) (by decide) (by decide) ⟨.d _, .d _, .d _, trivial⟩ trivial) ?_
  refine NWp.opsJ ⟨tab [(1, .d (.cptr none (eL (some 2) eapi_Row a1) 0)), (2, .d (.cptr none (.int .i64 a2) 0)), (3, .d (.cptr (some 2) (eapi_Row a0) 0))], stab [], 0⟩ ?_ ?_
  · refine step (v := .d (.cptr (some 2) (eapi_Row a0) 0)) rfl ?_
    refine step (v := .d (.bool false)) rfl ?_
    exact RunOps.nil' (Norm.mk [] (by decide) (by decide) (by decide) ⟨.d _, .d _, .d _, trivial⟩ trivial)
  obtain ⟨x1, hx1, h⟩ := bindE h
  obtain ⟨r2, hr2, h⟩ := bindE h
  refine NWp.opsJ ⟨tab [(4, .d (.bool r2))], stab [], 0⟩ ?_ ?_
  · refine step (v := .d (eapi_Row a0)) rfl ?_
    refine step (v := .d (eL (some 2) eapi_Row a1)) rfl ?_
    refine step (v := .d (.int .i64 a2)) rfl ?_
    refine step (v := .d (.cptr (some 2) (eapi_Row x1) 0)) (st_iaddr (xs := a1) (e := eapi_Row) hx1 rfl rfl) ?_
    refine step (v := .d (eapi_Row x1)) rfl ?_
    refine stepC (r := .bool r2) (ArgsOk.dt (ArgsOk.dt ArgsOk.nil')) (c_table_Covers hr2) ?_
    refine step (v := .d (.bool r2)) rfl ?_
    exact RunOps.nil' (Norm.mk [] (by decide) (by decide) (by decide) ⟨.d _, trivial⟩ trivial)
  have hh := Option.some.inj h
  subst hh
  refine NWp.ret ?_
  show FQ _ _ _ _
  exact FQ.mk1 (.inr rfl) (res_t (v := .d (.bool r2)) rfl rfl) (RV.d trivial)

theorem c_slices_IndexFunc_api_Row {a0 : (List api_Row)} {a1 : api_Row → Option Bool} {g_a1 : D} (hf_a1 : Fn1 Try.prog g_a1 eapi_Row D.bool a1) {r : Int} (h : slices_IndexFunc_api_Row a0 a1 = some r) : PCall Try.prog 71 [eL (some 2) eapi_Row a0, g_a1] (.int .i64 r) := by
  obtain ⟨fn_a1, cap_a1, rfl, hc_a1⟩ := hf_a1
  refine PCall.introN ok71 (show 2 ≤ 19 by decide) ?_
  refine NWp.norm (s0 := ⟨tab [(0, .d (eL (some 2) eapi_Row a0)), (1, .d (.func fn_a1 cap_a1))], stab [], 0⟩) (Norm.mk [] (by decide) (by decide) (by decide) ⟨.d _, .d _, trivial⟩ trivial) ?_
  refine NWp.opsJ ⟨tab [(0, .d (eL (some 2) eapi_Row a0)), (1, .d (.func fn_a1 cap_a1))], stab [], 0⟩ ?_ ?_
  · refine step (v := .d (.int .i64 0)) rfl ?_
    exact RunOps.nil' (Norm.mk [] (by decide) (by decide) (by decide) ⟨.d _, .d _, trivial⟩ trivial)
  refine NWp.seq ?_
  refine NWp.opsJ ⟨tab [(0, .d (eL (some 2) eapi_Row a0)), (1, .d (.func fn_a1 cap_a1)), (7, .d (.int .i64 (a0.length : Int))), (8, .d (.int .i64 0))], stab [], 0⟩ ?_ ?_
  · refine step (v := .d (eL (some 2) eapi_Row a0)) rfl ?_
    refine step (v := .d (.int .i64 (a0.length : Int))) (st_len (xs := a0) (e := eapi_Row) rfl) ?_
    refine step (v := .d (.int .i64 0)) rfl ?_
    exact RunOps.nil' (Norm.mk [] (by decide) (by decide) (by decide) ⟨.d _, .d _, .d _, .d _, trivial⟩ trivial)
  obtain ⟨q10, hl, h⟩ := bindE h
  refine NWp.block ?_
  refine loop_forR (cntU (a0.length : Int)) (fun (i1 : Int) (qq : Unit) => ⟨tab [(0, .d (eL (some 2) eapi_Row a0)), (1, .d (.func fn_a1 cap_a1)), (7, .d (.int .i64 (a0.length : Int))), (8, .d (.int .i64 i1))], stab [], 0⟩) 0 (fun (qq : Unit) => ⟨tab [], stab [], 0⟩) Low low_step (r := r) hl (by unfold Low; omega) ?_ ?_ ?_ ?_
  · rintro i1 ⟨⟩ xr6 hinv4 hgo3 h
    show NWp _ _ _ _ _ ⟨tab [(0, .d (eL (some 2) eapi_Row a0)), (1, .d (.func fn_a1 cap_a1)), (7, .d (.int .i64 (a0.length : Int))), (8, .d (.int .i64 i1))], stab [], 0⟩
    have hc5 : decide (i1 < (a0.length : Int)) = true := decide_eq_true hgo3
    refine NWp.opsJ ⟨tab [(0, .d (eL (some 2) eapi_Row a0)), (1, .d (.func fn_a1 cap_a1)), (7, .d (.int .i64 (a0.length : Int))), (8, .d (.int .i64 i1)), (9, .d (.bool (decide (i1 < (a0.length : Int)))))], stab [], 0⟩ ?_ ?_
    · refine step (v := .d (.bool (decide (i1 < (a0.length : Int))))) rfl ?_
      exact RunOps.nil' (Norm.mk [] (by decide) (by decide) (by decide) ⟨.d _, .d _, .d _, .d _, .d _, trivial⟩ trivial)
    refine NWp.rng 7 rfl fun hB2 => ?_
    refine NWp.seq ?_
    refine NWp.condT (t := decide (i1 < (a0.length : Int))) rfl hc5 ?_
    refine NWp.skip ?_
    refine NWp.seq ?_
    refine NWp.block ?_
    refine NWp.opsJ ⟨tab [(0, .d (eL (some 2) eapi_Row a0)), (1, .d (.func fn_a1 cap_a1)), (5, .d (.int .i64 i1)), (7, .d (.int .i64 (a0.length : Int))), (8, .d (.int .i64 i1))], stab [], 0⟩ ?_ ?_
    · refine step (v := .d (.int .i64 i1)) rfl ?_
      refine step (v := .d (.int .i64 i1)) rfl ?_
      exact RunOps.nil' (Norm.mk [] (by decide) (by decide) (by decide) ⟨.d _, .d _, .d _, .d _, .d _, trivial⟩ trivial)
    obtain ⟨x7, hx7, h⟩ := bindE h
    obtain ⟨x8, hx8, h⟩ := bindE h
    refine NWp.opsJ ⟨tab [(0, .d (eL (some 2) eapi_Row a0)), (1, .d (.func fn_a1 cap_a1)), (5, .d (.int .i64 i1)), (7, .d (.int .i64 (a0.length : Int))), (8, .d (.int .i64 i1)), (16, .d (.bool x8))], stab [], 0⟩ ?_ ?_
    · refine step (v := .d (.func fn_a1 cap_a1)) rfl ?_
      refine step (v := .d (eL (some 2) eapi_Row a0)) rfl ?_
      refine step (v := .d (.int .i64 i1)) rfl ?_
      refine step (v := .d (.cptr (some 2) (eapi_Row x7) 0)) (st_iaddr (xs := a0) (e := eapi_Row) hx7 rfl rfl) ?_
      refine step (v := .d (eapi_Row x7)) rfl ?_
      refine stepV' (r := .bool x8) rfl (ArgsOk.dt ArgsOk.nil') (hc_a1 _ _ hx8) ?_
      exact RunOps.nil' (Norm.mk [] (by decide) (by decide) (by decide) ⟨.d _, .d _, .d _, .d _, .d _, .d _, trivial⟩ trivial)
    by_cases hc9 : x8 = true
    · replace h := iteT hc9 h
      refine NWp.condT (t := x8) rfl hc9 ?_
      refine NWp.opsJ ⟨tab [(4, .d (.int .i64 i1))], stab [], 0⟩ ?_ ?_
      · refine step (v := .d (.int .i64 i1)) rfl ?_
        refine step (v := .d (.int .i64 i1)) rfl ?_
        exact RunOps.nil' (Norm.mk [] (by decide) (by decide) (by decide) ⟨.d _, trivial⟩ trivial)
      obtain ⟨r10, kr10, hr⟩ := mapE (o := some i1) (g := Br.ret) h
      subst hr
      have h := kr10
      have hh := Option.some.inj h
      subst hh
      refine NWp.ret ?_
      refine And.intro (fun hn => nomatch hn) ?_
      intro hq
      have hq := hq.symm
      subst hq
      show FQ _ _ _ _
      exact FQ.mk1 (.inr rfl) (res_t (v := .d (.int .i64 i1)) rfl rfl) (RV.d trivial)
    · replace h := iteF hc9 h
      refine NWp.condF (t := x8) rfl hc9 ?_
      refine NWp.skip ?_
      have hh := Option.some.inj h
      subst hh
      refine NWp.opsE ⟨tab [(0, .d (eL (some 2) eapi_Row a0)), (1, .d (.func fn_a1 cap_a1)), (7, .d (.int .i64 (a0.length : Int))), (8, .d (.int .i64 (i1 + 1)))], stab [], 0⟩ ?_ ?_
      · refine step (v := .d (.int .i64 (i1 + 1))) (st_inc (inc_ok hinv4 hgo3 hB2) rfl rfl) ?_
        refine step (v := .d (.int .i64 (i1 + 1))) rfl ?_
        exact RunOps.nil' (Norm.mk [] (by decide) (by decide) (by decide) ⟨.d _, .d _, .d _, .d _, trivial⟩ trivial)
      exact And.intro rfl rfl
  · rintro i1 ⟨⟩ hinv4 hgo3
    show NWp _ _ _ _ _ ⟨tab [(0, .d (eL (some 2) eapi_Row a0)), (1, .d (.func fn_a1 cap_a1)), (7, .d (.int .i64 (a0.length : Int))), (8, .d (.int .i64 i1))], stab [], 0⟩
    have hc5 : ¬ (decide (i1 < (a0.length : Int)) = true) := fun hq => hgo3 (of_decide_eq_true hq)
    refine NWp.opsJ ⟨tab [(0, .d (eL (some 2) eapi_Row a0)), (1, .d (.func fn_a1 cap_a1)), (7, .d (.int .i64 (a0.length : Int))), (8, .d (.int .i64 i1)), (9, .d (.bool (decide (i1 < (a0.length : Int)))))], stab [], 0⟩ ?_ ?_
    · refine step (v := .d (.bool (decide (i1 < (a0.length : Int))))) rfl ?_
      exact RunOps.nil' (Norm.mk [] (by decide) (by decide) (by decide) ⟨.d _, .d _, .d _, .d _, .d _, trivial⟩ trivial)
    refine NWp.seq ?_
    refine NWp.condF (t := decide (i1 < (a0.length : Int))) rfl hc5 ?_
    refine NWp.norm (s0 := ⟨tab [], stab [], 0⟩) (Norm.mk [] (by decide) (by decide) (by decide) trivial trivial) ?_
    refine NWp.exit ?_
    exact And.intro rfl rfl
  · intro r' hq
    subst hq
    exact Option.some.inj h
  rintro ⟨⟩ rfl
  refine NWp.opsJ ⟨tab [(4, .d (.int .i64 (-1)))], stab [], 0⟩ ?_ ?_
  · refine step (v := .d (.int .i64 (-1))) rfl ?_
    exact RunOps.nil' (Norm.mk [] (by decide) (by decide) (by decide) ⟨.d _, trivial⟩ trivial)
  have hh := Option.some.inj h
  subst hh
  refine NWp.ret ?_
  show FQ _ _ _ _
  exact FQ.mk1 (.inr rfl) (res_t (v := .d (.int .i64 (-1))) rfl rfl) (RV.d trivial)

theorem c_slices_ContainsFunc_api_Row {a0 : (List api_Row)} {a1 : api_Row → Option Bool} {g_a1 : D} (hf_a1 : Fn1 Try.prog g_a1 eapi_Row D.bool a1) {r : Bool} (h : slices_ContainsFunc_api_Row a0 a1 = some r) : PCall Try.prog 63 [eL (some 2) eapi_Row a0, g_a1] (.bool r) := by
  obtain ⟨fn_a1, cap_a1, rfl, hc_a1⟩ := hf_a1
  refine PCall.introN ok63 (show 2 ≤ 9 by decide) ?_
  refine NWp.norm (s0 := ⟨tab [(0, .d (eL (some 2) eapi_Row a0)), (1, .d (.func fn_a1 cap_a1))], stab [], 0⟩) (Norm.mk [] (by decide) (by decide) (by decide) ⟨.d _, .d _, trivial⟩ trivial) ?_
  refine NWp.opsJ ⟨tab [(0, .d (eL (some 2) eapi_Row a0)), (1, .d (.func fn_a1 cap_a1))], stab [], 0⟩ ?_ ?_
  · refine step (v := .d (.bool false)) rfl ?_
    exact RunOps.nil' (Norm.mk [] (by decide) (by decide) (by decide) ⟨.d _, .d _, trivial⟩ trivial)
  obtain ⟨r1, hr1, h⟩ := bindE h
  refine NWp.opsJ ⟨tab [(4, .d (.bool (decide (r1 ≥ 0))))], stab [], 0⟩ ?_ ?_
  · refine step (v := .d (eL (some 2) eapi_Row a0)) rfl ?_
    refine step (v := .d (.func fn_a1 cap_a1)) rfl ?_
    refine stepC (r := .int .i64 r1) (ArgsOk.dt (ArgsOk.dt ArgsOk.nil')) (c_slices_IndexFunc_api_Row ⟨_, _, rfl, hc_a1⟩ hr1) ?_
    refine step (v := .d (.bool (decide (r1 ≥ 0)))) rfl ?_
    refine step (v := .d (.bool (decide (r1 ≥ 0)))) rfl ?_
    exact RunOps.nil' (Norm.mk [] (by decide) (by decide) (by decide) ⟨.d _, trivial⟩ trivial)
  have hh := Option.some.inj h
  subst hh
  refine NWp.ret ?_
  show FQ _ _ _ _
  exact FQ.mk1 (.inr rfl) (res_t (v := .d (.bool (decide (r1 ≥ 0)))) rfl rfl) (RV.d trivial)

theorem c_slim_covered {a0 : (List api_Row)} {a1 : Int} {r : Bool} (h : slim_covered a0 a1 = some r) : PCall Try.prog 51 [eL (some 2) eapi_Row a0, .int .i64 a1] (.bool r) := by
  refine PCall.introN ok51 (show 2 ≤ 10 by decide) ?_
  refine NWp.norm (s0 := ⟨tab [(0, .d (eL (some 2) eapi_Row a0)), (1, .d (.int .i64 a1))], stab [], 0⟩) (Norm.mk [] (by decide) (by decide) (by decide) ⟨.d _, .d _, trivial⟩ trivial) ?_
  refine NWp.opsJ ⟨tab [(2, .d (.cptr none (eL (some 2) eapi_Row a0) 0)), (3, .d (.cptr none (.int .i64 a1) 0))], stab [], 0⟩ ?_ ?_
  · refine step (v := .d (.cptr none (eL (some 2) eapi_Row a0) 0)) rfl ?_
    refine step (v := .d (.cptr none (.int .i64 a1) 0)) rfl ?_
    refine step (v := .d (.bool false)) rfl ?_
    exact RunOps.nil' (Norm.mk [] (by decide) (by decide) (by decide) ⟨.d _, .d _, trivial⟩ trivial)
  obtain ⟨l1, hl1, h⟩ := bindE h
  obtain ⟨r2, hr2, h⟩ := bindE h
  refine NWp.opsJ ⟨tab [(4, .d (.bool r2))], stab [], 0⟩ ?_ ?_
  · refine step (v := .d (eL (some 2) eapi_Row a0)) rfl ?_
    refine step (v := .d (.int .i64 a1)) rfl ?_
    refine step (v := .d (eL (some 2) eapi_Row l1)) (st_slc (xs := a0) (e := eapi_Row) hl1 rfl rfl ⟨_, rfl⟩) ?_
    refine step (v := .d (.func 64 [.cptr none (eL (some 2) eapi_Row a0) 0, .cptr none (.int .i64 a1) 0])) rfl ?_
    refine stepC (r := .bool r2) (ArgsOk.dt (ArgsOk.dt ArgsOk.nil')) (c_slices_ContainsFunc_api_Row ⟨64, [.cptr none (eL (some 2) eapi_Row a0) 0, .cptr none (.int .i64 a1) 0], rfl, fun _ _ h => c_slim_covered_1 h⟩ hr2) ?_
    refine step (v := .d (.bool r2)) rfl ?_
    exact RunOps.nil' (Norm.mk [] (by decide) (by decide) (by decide) ⟨.d _, trivial⟩ trivial)
  have hh := Option.some.inj h
  subst hh
  refine NWp.ret ?_
  show FQ _ _ _ _
  exact FQ.mk1 (.inr rfl) (res_t (v := .d (.bool r2)) rfl rfl) (RV.d trivial)

theorem c_slices_EqualFunc_api_Act {a0 : (List (List api_Pair))} {a1 : (List (List api_Pair))} {a2 : (List api_Pair) → (List api_Pair) → Option Bool} {g_a2 : D} (hf_a2 : Fn2 Try.prog g_a2 (eL (some 2) eapi_Pair) (eL (some 2) eapi_Pair) D.bool a2) {r : Bool} (h : slices_EqualFunc_api_Act a0 a1 a2 = some r) : PCall Try.prog 74 [eL none (eL (some 2) eapi_Pair) a0, eL none (eL (some 2) eapi_Pair) a1, g_a2] (.bool r) := by
  obtain ⟨fn_a2, cap_a2, rfl, hc_a2⟩ := hf_a2
  refine PCall.introN ok74 (show 3 ≤ 32 by decide) ?_
  refine NWp.norm (s0 := ⟨tab [(0, .d (eL none (eL (some 2) eapi_Pair) a0)), (1, .d (eL none (eL (some 2) eapi_Pair) a1)), (2, .d (.func fn_a2 cap_a2))], stab [], 0⟩) (Norm.mk [] (by decide) (by decide) (by decide) ⟨.d _, .d _, .d _, trivial⟩ trivial) ?_
  refine NWp.opsJ ⟨tab [(0, .d (eL none (eL (some 2) eapi_Pair) a0)), (1, .d (eL none (eL (some 2) eapi_Pair) a1)), (2, .d (.func fn_a2 cap_a2))], stab [], 0⟩ ?_ ?_
  · refine step (v := .d (.bool false)) rfl ?_
    exact RunOps.nil' (Norm.mk [] (by decide) (by decide) (by decide) ⟨.d _, .d _, .d _, trivial⟩ trivial)
  refine NWp.seq ?_
  refine NWp.opsJ ⟨tab [(0, .d (eL none (eL (some 2) eapi_Pair) a0)), (1, .d (eL none (eL (some 2) eapi_Pair) a1)), (2, .d (.func fn_a2 cap_a2)), (14, .d (.bool ((a0.length : Int) != (a1.length : Int))))], stab [], 0⟩ ?_ ?_
  · refine step (v := .d (eL none (eL (some 2) eapi_Pair) a0)) rfl ?_
    refine step (v := .d (.int .i64 (a0.length : Int))) (st_len (xs := a0) (e := (eL (some 2) eapi_Pair)) rfl) ?_
    refine step (v := .d (eL none (eL (some 2) eapi_Pair) a1)) rfl ?_
    refine step (v := .d (.int .i64 (a1.length : Int))) (st_len (xs := a1) (e := (eL (some 2) eapi_Pair)) rfl) ?_
    refine step (v := .d (.bool ((a0.length : Int) != (a1.length : Int)))) rfl ?_
    exact RunOps.nil' (Norm.mk [] (by decide) (by decide) (by decide) ⟨.d _, .d _, .d _, .d _, trivial⟩ trivial)
  by_cases hc1 : ((a0.length : Int) != (a1.length : Int)) = true
  · replace h := iteT hc1 h
    refine NWp.condT (t := ((a0.length : Int) != (a1.length : Int))) rfl hc1 ?_
    refine NWp.opsJ ⟨tab [(6, .d (.bool false))], stab [], 0⟩ ?_ ?_
    · refine step (v := .d (.bool false)) rfl ?_
      exact RunOps.nil' (Norm.mk [] (by decide) (by decide) (by decide) ⟨.d _, trivial⟩ trivial)
    have hh := Option.some.inj h
    subst hh
    refine NWp.ret ?_
    show FQ _ _ _ _
    exact FQ.mk1 (.inr rfl) (res_t (v := .d (.bool false)) rfl rfl) (RV.d trivial)
  · replace h := iteF hc1 h
    refine NWp.condF (t := ((a0.length : Int) != (a1.length : Int))) rfl hc1 ?_
    refine NWp.skip ?_
    refine NWp.seq ?_
    refine NWp.opsJ ⟨tab [(1, .d (eL none (eL (some 2) eapi_Pair) a1)), (2, .d (.func fn_a2 cap_a2)), (15, .d (eL none (eL (some 2) eapi_Pair) a0)), (16, .d (.int .i64 (a0.length : Int))), (17, .d (.int .i64 0))], stab [], 0⟩ ?_ ?_
    · refine step (v := .d (eL none (eL (some 2) eapi_Pair) a0)) rfl ?_
      refine step (v := .d (.int .i64 (a0.length : Int))) (st_len (xs := a0) (e := (eL (some 2) eapi_Pair)) rfl) ?_
      refine step (v := .d (.int .i64 0)) rfl ?_
      exact RunOps.nil' (Norm.mk [] (by decide) (by decide) (by decide) ⟨.d _, .d _, .d _, .d _, .d _, trivial⟩ trivial)
    obtain ⟨q12, hl, h⟩ := bindE h
    refine NWp.block ?_
    refine loop_forR (cntU (a0.length : Int)) (fun (i2 : Int) (qq : Unit) => ⟨tab [(1, .d (eL none (eL (some 2) eapi_Pair) a1)), (2, .d (.func fn_a2 cap_a2)), (15, .d (eL none (eL (some 2) eapi_Pair) a0)), (16, .d (.int .i64 (a0.length : Int))), (17, .d (.int .i64 i2))], stab [], 0⟩) 0 (fun (qq : Unit) => ⟨tab [], stab [], 0⟩) Low low_step (r := r) hl (by unfold Low; omega) ?_ ?_ ?_ ?_
    · rintro i2 ⟨⟩ xr7 hinv5 hgo4 h
      show NWp _ _ _ _ _ ⟨tab [(1, .d (eL none (eL (some 2) eapi_Pair) a1)), (2, .d (.func fn_a2 cap_a2)), (15, .d (eL none (eL (some 2) eapi_Pair) a0)), (16, .d (.int .i64 (a0.length : Int))), (17, .d (.int .i64 i2))], stab [], 0⟩
      have hc6 : decide (i2 < (a0.length : Int)) = true := decide_eq_true hgo4
      refine NWp.opsJ ⟨tab [(1, .d (eL none (eL (some 2) eapi_Pair) a1)), (2, .d (.func fn_a2 cap_a2)), (15, .d (eL none (eL (some 2) eapi_Pair) a0)), (16, .d (.int .i64 (a0.length : Int))), (17, .d (.int .i64 i2)), (18, .d (.bool (decide (i2 < (a0.length : Int)))))], stab [], 0⟩ ?_ ?_
      · refine step (v := .d (.bool (decide (i2 < (a0.length : Int))))) rfl ?_
        exact RunOps.nil' (Norm.mk [] (by decide) (by decide) (by decide) ⟨.d _, .d _, .d _, .d _, .d _, .d _, trivial⟩ trivial)
      refine NWp.rng 16 rfl fun hB3 => ?_
      refine NWp.seq ?_
      refine NWp.condT (t := decide (i2 < (a0.length : Int))) rfl hc6 ?_
      refine NWp.skip ?_
      refine NWp.seq ?_
      refine NWp.block ?_
      obtain ⟨x8, hx8, h⟩ := bindE h
      refine NWp.opsJ ⟨tab [(1, .d (eL none (eL (some 2) eapi_Pair) a1)), (2, .d (.func fn_a2 cap_a2)), (7, .d (.int .i64 i2)), (8, .d (eL (some 2) eapi_Pair x8)), (15, .d (eL none (eL (some 2) eapi_Pair) a0)), (16, .d (.int .i64 (a0.length : Int))), (17, .d (.int .i64 i2))], stab [], 0⟩ ?_ ?_
      · refine step (v := .d (.int .i64 i2)) rfl ?_
        refine step (v := .d (.cptr none (eL (some 2) eapi_Pair x8) 0)) (st_iaddr (xs := a0) (e := (eL (some 2) eapi_Pair)) hx8 rfl rfl) ?_
        refine step (v := .d (eL (some 2) eapi_Pair x8)) rfl ?_
        refine step (v := .d (.int .i64 i2)) rfl ?_
        refine step (v := .d (eL (some 2) eapi_Pair x8)) rfl ?_
        exact RunOps.nil' (Norm.mk [] (by decide) (by decide) (by decide) ⟨.d _, .d _, .d _, .d _, .d _, .d _, .d _, trivial⟩ trivial)
      obtain ⟨x9, hx9, h⟩ := bindE h
      refine NWp.opsJ ⟨tab [(1, .d (eL none (eL (some 2) eapi_Pair) a1)), (2, .d (.func fn_a2 cap_a2)), (8, .d (eL (some 2) eapi_Pair x8)), (9, .d (eL (some 2) eapi_Pair x9)), (15, .d (eL none (eL (some 2) eapi_Pair) a0)), (16, .d (.int .i64 (a0.length : Int))), (17, .d (.int .i64 i2))], stab [], 0⟩ ?_ ?_
      · refine step (v := .d (eL none (eL (some 2) eapi_Pair) a1)) rfl ?_
        refine step (v := .d (.int .i64 i2)) rfl ?_
        refine step (v := .d (.cptr none (eL (some 2) eapi_Pair x9) 0)) (st_iaddr (xs := a1) (e := (eL (some 2) eapi_Pair)) hx9 rfl rfl) ?_
        refine step (v := .d (eL (some 2) eapi_Pair x9)) rfl ?_
        refine step (v := .d (eL (some 2) eapi_Pair x9)) rfl ?_
        exact RunOps.nil' (Norm.mk [] (by decide) (by decide) (by decide) ⟨.d _, .d _, .d _, .d _, .d _, .d _, .d _, trivial⟩ trivial)
      obtain ⟨x10, hx10, h⟩ := bindE h
      refine NWp.opsJ ⟨tab [(1, .d (eL none (eL (some 2) eapi_Pair) a1)), (2, .d (.func fn_a2 cap_a2)), (15, .d (eL none (eL (some 2) eapi_Pair) a0)), (16, .d (.int .i64 (a0.length : Int))), (17, .d (.int .i64 i2)), (30, .d (.bool (!x10)))], stab [], 0⟩ ?_ ?_
      · refine step (v := .d (.func fn_a2 cap_a2)) rfl ?_
        refine step (v := .d (eL (some 2) eapi_Pair x8)) rfl ?_
        refine step (v := .d (eL (some 2) eapi_Pair x9)) rfl ?_
        refine stepV' (r := .bool x10) rfl (ArgsOk.dt (ArgsOk.dt ArgsOk.nil')) (hc_a2 _ _ _ hx10) ?_
        refine step (v := .d (.bool (!x10))) rfl ?_
        exact RunOps.nil' (Norm.mk [] (by decide) (by decide) (by decide) ⟨.d _, .d _, .d _, .d _, .d _, .d _, trivial⟩ trivial)
      by_cases hc11 : (!x10) = true
      · replace h := iteT hc11 h
        refine NWp.condT (t := (!x10)) rfl hc11 ?_
        refine NWp.opsJ ⟨tab [(6, .d (.bool false))], stab [], 0⟩ ?_ ?_
        · refine step (v := .d (.bool false)) rfl ?_
          exact RunOps.nil' (Norm.mk [] (by decide) (by decide) (by decide) ⟨.d _, trivial⟩ trivial)
        obtain ⟨r12, kr12, hr⟩ := mapE (o := some false) (g := Br.ret) h
        subst hr
        have h := kr12
        have hh := Option.some.inj h
        subst hh
        refine NWp.ret ?_
        refine And.intro (fun hn => nomatch hn) ?_
        intro hq
        have hq := hq.symm
        subst hq
        show FQ _ _ _ _
        exact FQ.mk1 (.inr rfl) (res_t (v := .d (.bool false)) rfl rfl) (RV.d trivial)
      · replace h := iteF hc11 h
        refine NWp.condF (t := (!x10)) rfl hc11 ?_
        refine NWp.skip ?_
        have hh := Option.some.inj h
        subst hh
        refine NWp.opsE ⟨tab [(1, .d (eL none (eL (some 2) eapi_Pair) a1)), (2, .d (.func fn_a2 cap_a2)), (15, .d (eL none (eL (some 2) eapi_Pair) a0)), (16, .d (.int .i64 (a0.length : Int))), (17, .d (.int .i64 (i2 + 1)))], stab [], 0⟩ ?_ ?_
        · refine step (v := .d (.int .i64 (i2 + 1))) (st_inc (inc_ok hinv5 hgo4 hB3) rfl rfl) ?_
          refine step (v := .d (.int .i64 (i2 + 1))) rfl ?_
          exact RunOps.nil' (Norm.mk [] (by decide) (by decide) (by decide) ⟨.d _, .d _, .d _, .d _, .d _, trivial⟩ trivial)
        exact And.intro rfl rfl
    · rintro i2 ⟨⟩ hinv5 hgo4
      show NWp _ _ _ _ _ ⟨tab [(1, .d (eL none (eL (some 2) eapi_Pair) a1)), (2, .d (.func fn_a2 cap_a2)), (15, .d (eL none (eL (some 2) eapi_Pair) a0)), (16, .d (.int .i64 (a0.length : Int))), (17, .d (.int .i64 i2))], stab [], 0⟩
      have hc6 : ¬ (decide (i2 < (a0.length : Int)) = true) := fun hq => hgo4 (of_decide_eq_true hq)
      refine NWp.opsJ ⟨tab [(1, .d (eL none (eL (some 2) eapi_Pair) a1)), (2, .d (.func fn_a2 cap_a2)), (15, .d (eL none (eL (some 2) eapi_Pair) a0)), (16, .d (.int .i64 (a0.length : Int))), (17, .d (.int .i64 i2)), (18, .d (.bool (decide (i2 < (a0.length : Int)))))], stab [], 0⟩ ?_ ?_
      · refine step (v := .d (.bool (decide (i2 < (a0.length : Int))))) rfl ?_
        exact RunOps.nil' (Norm.mk [] (by decide) (by decide) (by decide) ⟨.d _, .d _, .d _, .d _, .d _, .d _, trivial⟩ trivial)
      refine NWp.seq ?_
      refine NWp.condF (t := decide (i2 < (a0.length : Int))) rfl hc6 ?_
      refine NWp.norm (s0 := ⟨tab [], stab [], 0⟩) (Norm.mk [] (by decide) (by decide) (by decide) trivial trivial) ?_
      refine NWp.exit ?_
      exact And.intro rfl rfl
    · intro r' hq
      subst hq
      exact Option.some.inj h
    rintro ⟨⟩ rfl
    refine NWp.opsJ ⟨tab [(6, .d (.bool true))], stab [], 0⟩ ?_ ?_
    · refine step (v := .d (.bool true)) rfl ?_
      exact RunOps.nil' (Norm.mk [] (by decide) (by decide) (by decide) ⟨.d _, trivial⟩ trivial)
    have hh := Option.some.inj h
    subst hh
    refine NWp.ret ?_
    show FQ _ _ _ _
    exact FQ.mk1 (.inr rfl) (res_t (v := .d (.bool true)) rfl rfl) (RV.d trivial)

theorem c_slices_Equal_api_Pair {a0 : (List api_Pair)} {a1 : (List api_Pair)} {r : Bool} (h : slices_Equal_api_Pair a0 a1 = some r) : PCall Try.prog 75 [eL (some 2) eapi_Pair a0, eL (some 2) eapi_Pair a1] (.bool r) := by
  refine PCall.introN ok75 (show 2 ≤ 26 by decide) ?_
  refine NWp.norm (s0 := ⟨tab [(0, .d (eL (some 2) eapi_Pair a0)), (1, .d (eL (some 2) eapi_Pair a1))], stab [], 0⟩) (Norm.mk [] (by decide) (by decide) (by decide) ⟨.d _, .d _, trivial⟩ trivial) ?_
  refine NWp.opsJ ⟨tab [(0, .d (eL (some 2) eapi_Pair a0)), (1, .d (eL (some 2) eapi_Pair a1))], stab [], 0⟩ ?_ ?_
  · refine step (v := .d (.bool false)) rfl ?_
    exact RunOps.nil' (Norm.mk [] (by decide) (by decide) (by decide) ⟨.d _, .d _, trivial⟩ trivial)
  refine NWp.seq ?_
  refine NWp.opsJ ⟨tab [(0, .d (eL (some 2) eapi_Pair a0)), (1, .d (eL (some 2) eapi_Pair a1)), (10, .d (.bool ((a0.length : Int) != (a1.length : Int))))], stab [], 0⟩ ?_ ?_
  · refine step (v := .d (eL (some 2) eapi_Pair a0)) rfl ?_
    refine step (v := .d (.int .i64 (a0.length : Int))) (st_len (xs := a0) (e := eapi_Pair) rfl) ?_
    refine step (v := .d (eL (some 2) eapi_Pair a1)) rfl ?_
    refine step (v := .d (.int .i64 (a1.length : Int))) (st_len (xs := a1) (e := eapi_Pair) rfl) ?_
    refine step (v := .d (.bool ((a0.length : Int) != (a1.length : Int)))) rfl ?_
    exact RunOps.nil' (Norm.mk [] (by decide) (by decide) (by decide) ⟨.d _, .d _, .d _, trivial⟩ trivial)
  by_cases hc1 : ((a0.length : Int) != (a1.length : Int)) = true
  · replace h := iteT hc1 h
    refine NWp.condT (t := ((a0.length : Int) != (a1.length : Int))) rfl hc1 ?_
    refine NWp.opsJ ⟨tab [(4, .d (.bool false))], stab [], 0⟩ ?_ ?_
    · refine step (v := .d (.bool false)) rfl ?_
      exact RunOps.nil' (Norm.mk [] (by decide) (by decide) (by decide) ⟨.d _, trivial⟩ trivial)
    have hh := Option.some.inj h
    subst hh
    refine NWp.ret ?_
    show FQ _ _ _ _
    exact FQ.mk1 (.inr rfl) (res_t (v := .d (.bool false)) rfl rfl) (RV.d trivial)
  · replace h := iteF hc1 h
    refine NWp.condF (t := ((a0.length : Int) != (a1.length : Int))) rfl hc1 ?_
    refine NWp.skip ?_
    refine NWp.seq ?_
    refine NWp.opsJ ⟨tab [(0, .d (eL (some 2) eapi_Pair a0)), (1, .d (eL (some 2) eapi_Pair a1)), (12, .d (.int .i64 (a0.length : Int))), (13, .d (.int .i64 0))], stab [], 0⟩ ?_ ?_
    · refine step (v := .d (eL (some 2) eapi_Pair a0)) rfl ?_
      refine step (v := .d (.int .i64 (a0.length : Int))) (st_len (xs := a0) (e := eapi_Pair) rfl) ?_
      refine step (v := .d (.int .i64 0)) rfl ?_
      exact RunOps.nil' (Norm.mk [] (by decide) (by decide) (by decide) ⟨.d _, .d _, .d _, .d _, trivial⟩ trivial)
    obtain ⟨q11, hl, h⟩ := bindE h
    refine NWp.block ?_
    refine loop_forR (cntU (a0.length : Int)) (fun (i2 : Int) (qq : Unit) => ⟨tab [(0, .d (eL (some 2) eapi_Pair a0)), (1, .d (eL (some 2) eapi_Pair a1)), (12, .d (.int .i64 (a0.length : Int))), (13, .d (.int .i64 i2))], stab [], 0⟩) 0 (fun (qq : Unit) => ⟨tab [], stab [], 0⟩) Low low_step (r := r) hl (by unfold Low; omega) ?_ ?_ ?_ ?_
    · rintro i2 ⟨⟩ xr7 hinv5 hgo4 h
      show NWp _ _ _ _ _ ⟨tab [(0, .d (eL (some 2) eapi_Pair a0)), (1, .d (eL (some 2) eapi_Pair a1)), (12, .d (.int .i64 (a0.length : Int))), (13, .d (.int .i64 i2))], stab [], 0⟩
      have hc6 : decide (i2 < (a0.length : Int)) = true := decide_eq_true hgo4
      refine NWp.opsJ ⟨tab [(0, .d (eL (some 2) eapi_Pair a0)), (1, .d (eL (some 2) eapi_Pair a1)), (12, .d (.int .i64 (a0.length : Int))), (13, .d (.int .i64 i2)), (14, .d (.bool (decide (i2 < (a0.length : Int)))))], stab [], 0⟩ ?_ ?_
      · refine step (v := .d (.bool (decide (i2 < (a0.length : Int))))) rfl ?_
        exact RunOps.nil' (Norm.mk [] (by decide) (by decide) (by decide) ⟨.d _, .d _, .d _, .d _, .d _, trivial⟩ trivial)
      refine NWp.rng 12 rfl fun hB3 => ?_
      refine NWp.seq ?_
      refine NWp.condT (t := decide (i2 < (a0.length : Int))) rfl hc6 ?_
      refine NWp.skip ?_
      refine NWp.seq ?_
      refine NWp.block ?_
      refine NWp.opsJ ⟨tab [(0, .d (eL (some 2) eapi_Pair a0)), (1, .d (eL (some 2) eapi_Pair a1)), (5, .d (.int .i64 i2)), (12, .d (.int .i64 (a0.length : Int))), (13, .d (.int .i64 i2))], stab [], 0⟩ ?_ ?_
      · refine step (v := .d (.int .i64 i2)) rfl ?_
        refine step (v := .d (.int .i64 i2)) rfl ?_
        exact RunOps.nil' (Norm.mk [] (by decide) (by decide) (by decide) ⟨.d _, .d _, .d _, .d _, .d _, trivial⟩ trivial)
      obtain ⟨x8, hx8, h⟩ := bindE h
      obtain ⟨x9, hx9, h⟩ := bindE h
      refine NWp.opsJ ⟨tab [(0, .d (eL (some 2) eapi_Pair a0)), (1, .d (eL (some 2) eapi_Pair a1)), (12, .d (.int .i64 (a0.length : Int))), (13, .d (.int .i64 i2)), (24, .d (.bool (!(x8 == x9))))], stab [], 0⟩ ?_ ?_
      · refine step (v := .d (eL (some 2) eapi_Pair a0)) rfl ?_
        refine step (v := .d (.int .i64 i2)) rfl ?_
        refine step (v := .d (.cptr (some 2) (eapi_Pair x8) 0)) (st_iaddr (xs := a0) (e := eapi_Pair) hx8 rfl rfl) ?_
        refine step (v := .d (eapi_Pair x8)) rfl ?_
        refine step (v := .d (eL (some 2) eapi_Pair a1)) rfl ?_
        refine step (v := .d (.int .i64 i2)) rfl ?_
        refine step (v := .d (.cptr (some 2) (eapi_Pair x9) 0)) (st_iaddr (xs := a1) (e := eapi_Pair) hx9 rfl rfl) ?_
        refine step (v := .d (eapi_Pair x9)) rfl ?_
        refine step (v := .d (.bool (!(x8 == x9)))) (st_eqS (neg := true) rfl rfl (eqS_api_Pair x8 x9)) ?_
        exact RunOps.nil' (Norm.mk [] (by decide) (by decide) (by decide) ⟨.d _, .d _, .d _, .d _, .d _, trivial⟩ trivial)
      by_cases hc10 : (!(x8 == x9)) = true
      · replace h := iteT hc10 h
        refine NWp.condT (t := (!(x8 == x9))) rfl hc10 ?_
        refine NWp.opsJ ⟨tab [(4, .d (.bool false))], stab [], 0⟩ ?_ ?_
        · refine step (v := .d (.bool false)) rfl ?_
          exact RunOps.nil' (Norm.mk [] (by decide) (by decide) (by decide) ⟨.d _, trivial⟩ trivial)
        obtain ⟨r11, kr11, hr⟩ := mapE (o := some false) (g := Br.ret) h
        subst hr
        have h := kr11
        have hh := Option.some.inj h
        subst hh
        refine NWp.ret ?_
        refine And.intro (fun hn => nomatch hn) ?_
        intro hq
        have hq := hq.symm
        subst hq
        show FQ _ _ _ _
        exact FQ.mk1 (.inr rfl) (res_t (v := .d (.bool false)) rfl rfl) (RV.d trivial)
      · replace h := iteF hc10 h
        refine NWp.condF (t := (!(x8 == x9))) rfl hc10 ?_
        refine NWp.skip ?_
        have hh := Option.some.inj h
        subst hh
        refine NWp.opsE ⟨tab [(0, .d (eL (some 2) eapi_Pair a0)), (1, .d (eL (some 2) eapi_Pair a1)), (12, .d (.int .i64 (a0.length : Int))), (13, .d (.int .i64 (i2 + 1)))], stab [], 0⟩ ?_ ?_
        · refine step (v := .d (.int .i64 (i2 + 1))) (st_inc (inc_ok hinv5 hgo4 hB3) rfl rfl) ?_
          refine step (v := .d (.int .i64 (i2 + 1))) rfl ?_
          exact RunOps.nil' (Norm.mk [] (by decide) (by decide) (by decide) ⟨.d _, .d _, .d _, .d _, trivial⟩ trivial)
        exact And.intro rfl rfl
    · rintro i2 ⟨⟩ hinv5 hgo4
      show NWp _ _ _ _ _ ⟨tab [(0, .d (eL (some 2) eapi_Pair a0)), (1, .d (eL (some 2) eapi_Pair a1)), (12, .d (.int .i64 (a0.length : Int))), (13, .d (.int .i64 i2))], stab [], 0⟩
      have hc6 : ¬ (decide (i2 < (a0.length : Int)) = true) := fun hq => hgo4 (of_decide_eq_true hq)
      refine NWp.opsJ ⟨tab [(0, .d (eL (some 2) eapi_Pair a0)), (1, .d (eL (some 2) eapi_Pair a1)), (12, .d (.int .i64 (a0.length : Int))), (13, .d (.int .i64 i2)), (14, .d (.bool (decide (i2 < (a0.length : Int)))))], stab [], 0⟩ ?_ ?_
      · refine step (v := .d (.bool (decide (i2 < (a0.length : Int))))) rfl ?_
        exact RunOps.nil' (Norm.mk [] (by decide) (by decide) (by decide) ⟨.d _, .d _, .d _, .d _, .d _, trivial⟩ trivial)
      refine NWp.seq ?_
      refine NWp.condF (t := decide (i2 < (a0.length : Int))) rfl hc6 ?_
      refine NWp.norm (s0 := ⟨tab [], stab [], 0⟩) (Norm.mk [] (by decide) (by decide) (by decide) trivial trivial) ?_
      refine NWp.exit ?_
      exact And.intro rfl rfl
    · intro r' hq
      subst hq
      exact Option.some.inj h
    rintro ⟨⟩ rfl
    refine NWp.opsJ ⟨tab [(4, .d (.bool true))], stab [], 0⟩ ?_ ?_
    · refine step (v := .d (.bool true)) rfl ?_
      exact RunOps.nil' (Norm.mk [] (by decide) (by decide) (by decide) ⟨.d _, trivial⟩ trivial)
    have hh := Option.some.inj h
    subst hh
    refine NWp.ret ?_
    show FQ _ _ _ _
    exact FQ.mk1 (.inr rfl) (res_t (v := .d (.bool true)) rfl rfl) (RV.d trivial)

theorem c_slim_alike {a0 : api_Row} {a1 : api_Row} {r : Bool} (h : slim_alike a0 a1 = some r) : PCall Try.prog 66 [eapi_Row a0, eapi_Row a1] (.bool r) := by
  refine PCall.introN ok66 (show 2 ≤ 10 by decide) ?_
  refine NWp.norm (s0 := ⟨tab [(0, .d (eapi_Row a0)), (1, .d (eapi_Row a1))], stab [], 0⟩) (Norm.mk [] (by decide) (by decide) (by decide) ⟨.d _, .d _, trivial⟩ trivial) ?_
  refine NWp.opsJ ⟨tab [(2, .d (.cptr (some 2) (eapi_Row a0) 0)), (3, .d (.cptr (some 2) (eapi_Row a1) 0))], stab [], 0⟩ ?_ ?_
  · refine step (v := .d (.cptr (some 2) (eapi_Row a0) 0)) rfl ?_
    refine step (v := .d (.cptr (some 2) (eapi_Row a1) 0)) rfl ?_
    refine step (v := .d (.bool false)) rfl ?_
    exact RunOps.nil' (Norm.mk [] (by decide) (by decide) (by decide) ⟨.d _, .d _, trivial⟩ trivial)
  obtain ⟨r1, hr1, h⟩ := bindE h
  refine NWp.opsJ ⟨tab [(4, .d (.bool r1))], stab [], 0⟩ ?_ ?_
  · refine step (v := .d (.cptr (some 2) (eapi_Row a0) 1)) rfl ?_
    refine step (v := .d (eL none (eL (some 2) eapi_Pair) a0.Acts)) rfl ?_
    refine step (v := .d (.cptr (some 2) (eapi_Row a1) 1)) rfl ?_
    refine step (v := .d (eL none (eL (some 2) eapi_Pair) a1.Acts)) rfl ?_
    refine stepC (r := .bool r1) (ArgsOk.dt (ArgsOk.dt (ArgsOk.dt ArgsOk.nil'))) (c_slices_EqualFunc_api_Act ⟨75, [], rfl, fun _ _ _ h => c_slices_Equal_api_Pair h⟩ hr1) ?_
    refine step (v := .d (.bool r1)) rfl ?_
    exact RunOps.nil' (Norm.mk [] (by decide) (by decide) (by decide) ⟨.d _, trivial⟩ trivial)
  have hh := Option.some.inj h
  subst hh
  refine NWp.ret ?_
  show FQ _ _ _ _
  exact FQ.mk1 (.inr rfl) (res_t (v := .d (.bool r1)) rfl rfl) (RV.d trivial)

theorem c_slim_Apart_1_1 {a0 : api_Pair} {a1 : api_Pair} {r : Bool} (h : slim_Apart_1_1 a0 a1 = some r) : PCall Try.prog 57 [eapi_Pair a0, .cptr (some 2) (eapi_Pair a1) 0] (.bool r) := by
  refine PCall.introN ok57 (show 2 ≤ 16 by decide) ?_
  refine NWp.norm (s0 := ⟨tab [(0, .d (eapi_Pair a0)), (1, .d (.cptr (some 2) (eapi_Pair a1) 0))], stab [], 0⟩) (Norm.mk [] (by decide) (by decide) (by decide) ⟨.d _, .d _, trivial⟩ trivial) ?_
  refine NWp.opsJ ⟨tab [(1, .d (.cptr (some 2) (eapi_Pair a1) 0)), (2, .d (.cptr (some 2) (eapi_Pair a0) 0))], stab [], 0⟩ ?_ ?_
  · refine step (v := .d (.cptr (some 2) (eapi_Pair a0) 0)) rfl ?_
    refine step (v := .d (.bool false)) rfl ?_
    exact RunOps.nil' (Norm.mk [] (by decide) (by decide) (by decide) ⟨.d _, .d _, trivial⟩ trivial)
  refine NWp.opsJ ⟨tab [(3, .d (.bool ((a1.F == a0.F) && (a1.N != a0.N))))], stab [], 0⟩ ?_ ?_
  · refine step (v := .d (.cptr (some 2) (eapi_Pair a1) 0)) rfl ?_
    refine step (v := .d (.int .i64 a1.F)) rfl ?_
    refine step (v := .d (.cptr (some 2) (eapi_Pair a0) 0)) rfl ?_
    refine step (v := .d (.int .i64 a0.F)) rfl ?_
    refine step (v := .d (.bool (a1.F == a0.F))) rfl ?_
    refine step (v := .d (.bool (a1.F == a0.F))) rfl ?_
    by_cases hg1 : (a1.F == a0.F) = true
    · refine stepG (c := (a1.F == a0.F)) rfl hg1 ?_
      refine step (v := .d (.cptr (some 2) (eapi_Pair a1) 1)) rfl ?_
      refine stepG (c := (a1.F == a0.F)) rfl hg1 ?_
      refine step (v := .d (.int .u16 a1.N)) rfl ?_
      refine stepG (c := (a1.F == a0.F)) rfl hg1 ?_
      refine step (v := .d (.cptr (some 2) (eapi_Pair a0) 1)) rfl ?_
      refine stepG (c := (a1.F == a0.F)) rfl hg1 ?_
      refine step (v := .d (.int .u16 a0.N)) rfl ?_
      refine stepG (c := (a1.F == a0.F)) rfl hg1 ?_
      refine step (v := .d (.bool (a1.N != a0.N))) rfl ?_
      refine step (v := .d (.bool (a1.N != a0.N))) (st_pickT (b := (a1.F == a0.F)) rfl hg1 rfl) ?_
      refine step (v := .d (.bool (a1.N != a0.N))) rfl ?_
      exact RunOps.nil' (Norm.mk [] (by decide) (by decide) (by decide) ⟨.eq (by simp [hg1]), trivial⟩ trivial)
    · refine stepX (c := (a1.F == a0.F)) rfl hg1 ?_
      refine stepX (c := (a1.F == a0.F)) rfl hg1 ?_
      refine stepX (c := (a1.F == a0.F)) rfl hg1 ?_
      refine stepX (c := (a1.F == a0.F)) rfl hg1 ?_
      refine stepX (c := (a1.F == a0.F)) rfl hg1 ?_
      refine step (v := .d (.bool false)) (st_pickF (b := (a1.F == a0.F)) rfl hg1 rfl) ?_
      refine step (v := .d (.bool false)) rfl ?_
      exact RunOps.nil' (Norm.mk [] (by decide) (by decide) (by decide) ⟨.eq (by simp [hg1]), trivial⟩ trivial)
  have hh := Option.some.inj h
  subst hh
  refine NWp.ret ?_
  show FQ _ _ _ _
  exact FQ.mk1 (.inr rfl) (res_t (v := .d (.bool ((a1.F == a0.F) && (a1.N != a0.N)))) rfl rfl) (RV.d trivial)

theorem c_slim_Apart_1 {a0 : api_Pair} {a1 : api_Row} {r : Bool} (h : slim_Apart_1 a0 a1 = some r) : PCall Try.prog 56 [eapi_Pair a0, .cptr (some 2) (eapi_Row a1) 0] (.bool r) := by
  refine PCall.introN ok56 (show 2 ≤ 8 by decide) ?_
  refine NWp.norm (s0 := ⟨tab [(0, .d (eapi_Pair a0)), (1, .d (.cptr (some 2) (eapi_Row a1) 0))], stab [], 0⟩) (Norm.mk [] (by decide) (by decide) (by decide) ⟨.d _, .d _, trivial⟩ trivial) ?_
  refine NWp.opsJ ⟨tab [(1, .d (.cptr (some 2) (eapi_Row a1) 0)), (2, .d (.cptr (some 2) (eapi_Pair a0) 0))], stab [], 0⟩ ?_ ?_
  · refine step (v := .d (.cptr (some 2) (eapi_Pair a0) 0)) rfl ?_
    refine step (v := .d (.bool false)) rfl ?_
    exact RunOps.nil' (Norm.mk [] (by decide) (by decide) (by decide) ⟨.d _, .d _, trivial⟩ trivial)
  obtain ⟨r1, hr1, h⟩ := bindE h
  refine NWp.opsJ ⟨tab [(3, .d (.bool r1))], stab [], 0⟩ ?_ ?_
  · refine step (v := .d (.cptr (some 2) (eapi_Row a1) 0)) rfl ?_
    refine step (v := .d (eL (some 2) eapi_Pair a1.Match)) rfl ?_
    refine step (v := .d (.func 57 [.cptr (some 2) (eapi_Pair a0) 0])) rfl ?_
    refine stepC (r := .bool r1) (ArgsOk.dt (ArgsOk.dt ArgsOk.nil')) (c_slices_ContainsFunc_api_Pair ⟨57, [.cptr (some 2) (eapi_Pair a0) 0], rfl, fun _ _ h => c_slim_Apart_1_1 h⟩ hr1) ?_
    refine step (v := .d (.bool r1)) rfl ?_
    exact RunOps.nil' (Norm.mk [] (by decide) (by decide) (by decide) ⟨.d _, trivial⟩ trivial)
  have hh := Option.some.inj h
  subst hh
  refine NWp.ret ?_
  show FQ _ _ _ _
  exact FQ.mk1 (.inr rfl) (res_t (v := .d (.bool r1)) rfl rfl) (RV.d trivial)

theorem c_slim_Apart {a0 : api_Row} {a1 : api_Row} {r : Bool} (h : slim_Apart a0 a1 = some r) : PCall Try.prog 35 [eapi_Row a0, eapi_Row a1] (.bool r) := by
  refine PCall.introN ok35 (show 2 ≤ 9 by decide) ?_
  refine NWp.norm (s0 := ⟨tab [(0, .d (eapi_Row a0)), (1, .d (eapi_Row a1))], stab [], 0⟩) (Norm.mk [] (by decide) (by decide) (by decide) ⟨.d _, .d _, trivial⟩ trivial) ?_
  refine NWp.opsJ ⟨tab [(2, .d (.cptr (some 2) (eapi_Row a0) 0)), (3, .d (.cptr (some 2) (eapi_Row a1) 0))], stab [], 0⟩ ?_ ?_
  · refine step (v := .d (.cptr (some 2) (eapi_Row a0) 0)) rfl ?_
    refine step (v := .d (.cptr (some 2) (eapi_Row a1) 0)) rfl ?_
    refine step (v := .d (.bool false)) rfl ?_
    exact RunOps.nil' (Norm.mk [] (by decide) (by decide) (by decide) ⟨.d _, .d _, trivial⟩ trivial)
  obtain ⟨r1, hr1, h⟩ := bindE h
  refine NWp.opsJ ⟨tab [(4, .d (.bool r1))], stab [], 0⟩ ?_ ?_
  · refine step (v := .d (.cptr (some 2) (eapi_Row a0) 0)) rfl ?_
    refine step (v := .d (eL (some 2) eapi_Pair a0.Match)) rfl ?_
    refine step (v := .d (.func 56 [.cptr (some 2) (eapi_Row a1) 0])) rfl ?_
    refine stepC (r := .bool r1) (ArgsOk.dt (ArgsOk.dt ArgsOk.nil')) (c_slices_ContainsFunc_api_Pair ⟨56, [.cptr (some 2) (eapi_Row a1) 0], rfl, fun _ _ h => c_slim_Apart_1 h⟩ hr1) ?_
    refine step (v := .d (.bool r1)) rfl ?_
    exact RunOps.nil' (Norm.mk [] (by decide) (by decide) (by decide) ⟨.d _, trivial⟩ trivial)
  have hh := Option.some.inj h
  subst hh
  refine NWp.ret ?_
  show FQ _ _ _ _
  exact FQ.mk1 (.inr rfl) (res_t (v := .d (.bool r1)) rfl rfl) (RV.d trivial)

theorem c_slim_spared {a0 : (List api_Row)} {a1 : Int} {r : Bool} (h : slim_spared a0 a1 = some r) : PCall Try.prog 52 [eL (some 2) eapi_Row a0, .int .i64 a1] (.bool r) := by
  refine PCall.introN ok52 (show 2 ≤ 46 by decide) ?_
  refine NWp.norm (s0 := ⟨tab [(0, .d (eL (some 2) eapi_Row a0)), (1, .d (.int .i64 a1))], stab [], 0⟩) (Norm.mk [] (by decide) (by decide) (by decide) ⟨.d _, .d _, trivial⟩ trivial) ?_
  refine NWp.opsJ ⟨tab [(0, .d (eL (some 2) eapi_Row a0)), (1, .d (.int .i64 a1))], stab [], 0⟩ ?_ ?_
  · refine step (v := .d (.bool false)) rfl ?_
    exact RunOps.nil' (Norm.mk [] (by decide) (by decide) (by decide) ⟨.d _, .d _, trivial⟩ trivial)
  refine NWp.seq ?_
  obtain ⟨l1, hl1, h⟩ := bindE h
  refine NWp.opsJ ⟨tab [(0, .d (eL (some 2) eapi_Row a0)), (1, .d (.int .i64 a1)), (11, .d (eL (some 2) eapi_Row l1)), (12, .d (.int .i64 (l1.length : Int))), (13, .d (.int .i64 0))], stab [], 0⟩ ?_ ?_
  · refine step (v := .d (eL (some 2) eapi_Row a0)) rfl ?_
    refine step (v := .d (.int .i64 a1)) rfl ?_
    refine step (v := .d (.int .i64 (IntKind.i64.wrap (a1 + 1)))) rfl ?_
    refine step (v := .d (eL (some 2) eapi_Row l1)) (st_slc (xs := a0) (e := eapi_Row) hl1 rfl ⟨_, rfl⟩ rfl) ?_
    refine step (v := .d (.int .i64 (l1.length : Int))) (st_len (xs := l1) (e := eapi_Row) rfl) ?_
    refine step (v := .d (.int .i64 0)) rfl ?_
    exact RunOps.nil' (Norm.mk [] (by decide) (by decide) (by decide) ⟨.d _, .d _, .d _, .d _, .d _, trivial⟩ trivial)
  obtain ⟨q21, hl, h⟩ := bindE h
  refine NWp.block ?_
  refine loop_forR (cntU (l1.length : Int)) (fun (i2 : Int) (qq : Unit) => ⟨tab [(0, .d (eL (some 2) eapi_Row a0)), (1, .d (.int .i64 a1)), (11, .d (eL (some 2) eapi_Row l1)), (12, .d (.int .i64 (l1.length : Int))), (13, .d (.int .i64 i2))], stab [], 0⟩) 0 (fun (qq : Unit) => ⟨tab [], stab [], 0⟩) Low low_step (r := r) hl (by unfold Low; omega) ?_ ?_ ?_ ?_
  · rintro i2 ⟨⟩ xr7 hinv5 hgo4 h
    show NWp _ _ _ _ _ ⟨tab [(0, .d (eL (some 2) eapi_Row a0)), (1, .d (.int .i64 a1)), (11, .d (eL (some 2) eapi_Row l1)), (12, .d (.int .i64 (l1.length : Int))), (13, .d (.int .i64 i2))], stab [], 0⟩
    have hc6 : decide (i2 < (l1.length : Int)) = true := decide_eq_true hgo4
    refine NWp.opsJ ⟨tab [(0, .d (eL (some 2) eapi_Row a0)), (1, .d (.int .i64 a1)), (11, .d (eL (some 2) eapi_Row l1)), (12, .d (.int .i64 (l1.length : Int))), (13, .d (.int .i64 i2)), (14, .d (.bool (decide (i2 < (l1.length : Int)))))], stab [], 0⟩ ?_ ?_
    · refine step (v := .d (.bool (decide (i2 < (l1.length : Int))))) rfl ?_
      exact RunOps.nil' (Norm.mk [] (by decide) (by decide) (by decide) ⟨.d _, .d _, .d _, .d _, .d _, .d _, trivial⟩ trivial)
    refine NWp.rng 12 rfl fun hB3 => ?_
    refine NWp.seq ?_
    refine NWp.condT (t := decide (i2 < (l1.length : Int))) rfl hc6 ?_
    refine NWp.skip ?_
    refine NWp.seq ?_
    refine NWp.block ?_
    obtain ⟨x8, hx8, h⟩ := bindE h
    refine NWp.opsJ ⟨tab [(0, .d (eL (some 2) eapi_Row a0)), (1, .d (.int .i64 a1)), (6, .ptr 0 0 0), (11, .d (eL (some 2) eapi_Row l1)), (12, .d (.int .i64 (l1.length : Int))), (13, .d (.int .i64 i2))], stab [(0, .var [.d (eL (some 2) eapi_Pair x8.Match), .d (eL none (eL (some 2) eapi_Pair) x8.Acts)])], 1⟩ ?_ ?_
    · refine step (v := .d (.cptr (some 2) (eapi_Row x8) 0)) (st_iaddr (xs := l1) (e := eapi_Row) hx8 rfl rfl) ?_
      refine step (v := .d (eapi_Row x8)) rfl ?_
      refine step (v := .ptr 0 0 0) (σ' := (upd (stab []) 0 (some (.var [.d (eL (some 2) eapi_Pair []), .d (eL none (eL (some 2) eapi_Pair) [])])))) (n' := 1) rfl ?_
      refine step (v := V.undef) (σ' := (upd (upd (stab []) 0 (some (.var [.d (eL (some 2) eapi_Pair []), .d (eL none (eL (some 2) eapi_Pair) [])]))) 0 (some (.var [.d (eL (some 2) eapi_Pair x8.Match), .d (eL none (eL (some 2) eapi_Pair) x8.Acts)])))) (n' := 1) rfl ?_
      exact RunOps.nil' (Norm.mk [0] (by decide) (by decide) (by decide) ⟨.d _, .d _, .ptr 0 _ _ (show 0 < 1 by decide), .d _, .d _, .d _, trivial⟩ ⟨⟨show 0 < 1 by decide, _, rfl, .vars ⟨.d _, .d _, trivial⟩⟩, trivial⟩)
    obtain ⟨x9, hx9, h⟩ := bindE h
    obtain ⟨r10, hr10, h⟩ := bindE h
    refine NWp.opsJ ⟨tab [(0, .d (eL (some 2) eapi_Row a0)), (1, .d (.int .i64 a1)), (6, .ptr 0 0 0), (7, .d (.bool r10)), (11, .d (eL (some 2) eapi_Row l1)), (12, .d (.int .i64 (l1.length : Int))), (13, .d (.int .i64 i2))], stab [(0, .var [.d (eL (some 2) eapi_Pair x8.Match), .d (eL none (eL (some 2) eapi_Pair) x8.Acts)])], 1⟩ ?_ ?_
    · refine step (v := .d (eapi_Row x8)) (st_ldV (ds := [eL (some 2) eapi_Pair x8.Match, eL none (eL (some 2) eapi_Pair) x8.Acts]) rfl rfl (show 2 ≤ 2 by decide) rfl) ?_
      refine step (v := .d (eL (some 2) eapi_Row a0)) rfl ?_
      refine step (v := .d (.int .i64 a1)) rfl ?_
      refine step (v := .d (.cptr (some 2) (eapi_Row x9) 0)) (st_iaddr (xs := a0) (e := eapi_Row) hx9 rfl rfl) ?_
      refine step (v := .d (eapi_Row x9)) rfl ?_
      refine stepC (r := .bool r10) (ArgsOk.dt (ArgsOk.dt ArgsOk.nil')) (c_slim_alike hr10) ?_
      refine step (v := .d (.bool r10)) rfl ?_
      exact RunOps.nil' (Norm.mk [0] (by decide) (by decide) (by decide) ⟨.d _, .d _, .ptr 0 _ _ (show 0 < 1 by decide), .d _, .d _, .d _, .d _, trivial⟩ ⟨⟨show 0 < 1 by decide, _, rfl, .vars ⟨.d _, .d _, trivial⟩⟩, trivial⟩)
    refine NWp.block ?_
    obtain ⟨y13, hv, h⟩ := bindE h
    refine NWp.opsJ ⟨tab [(0, .d (eL (some 2) eapi_Row a0)), (1, .d (.int .i64 a1)), (6, .ptr 0 0 0), (7, .d (.bool r10)), (11, .d (eL (some 2) eapi_Row l1)), (12, .d (.int .i64 (l1.length : Int))), (13, .d (.int .i64 i2)), (23, .d (.bool y13))], stab [(0, .var [.d (eL (some 2) eapi_Pair x8.Match), .d (eL none (eL (some 2) eapi_Pair) x8.Acts)])], 1⟩ ?_ ?_
    · refine step (v := .d (.bool r10)) rfl ?_
      refine step (v := .d (.bool r10)) rfl ?_
      by_cases hg11 : r10 = true
      · replace hv := iteT hg11 hv
        obtain ⟨r12, hr12, hv⟩ := bindE hv
        refine stepG (c := r10) rfl hg11 ?_
        refine step (v := .d (eapi_Row x8)) (st_ldV (ds := [eL (some 2) eapi_Pair x8.Match, eL none (eL (some 2) eapi_Pair) x8.Acts]) rfl rfl (show 2 ≤ 2 by decide) rfl) ?_
        refine stepG (c := r10) rfl hg11 ?_
        refine step (v := .d (eL (some 2) eapi_Row a0)) rfl ?_
        refine stepG (c := r10) rfl hg11 ?_
        refine step (v := .d (.int .i64 a1)) rfl ?_
        refine stepG (c := r10) rfl hg11 ?_
        refine step (v := .d (.cptr (some 2) (eapi_Row x9) 0)) (st_iaddr (xs := a0) (e := eapi_Row) hx9 rfl rfl) ?_
        refine stepG (c := r10) rfl hg11 ?_
        refine step (v := .d (eapi_Row x9)) rfl ?_
        refine stepG (c := r10) rfl hg11 ?_
        refine stepC (r := .bool r12) (ArgsOk.dt (ArgsOk.dt ArgsOk.nil')) (c_table_Covers hr12) ?_
        refine step (v := .d (.bool r12)) (st_pickT (b := r10) rfl hg11 rfl) ?_
        refine step (v := .d (.bool r12)) rfl ?_
        have hh := Option.some.inj hv
        subst hh
        exact RunOps.nil' (Norm.mk [0] (by decide) (by decide) (by decide) ⟨.d _, .d _, .ptr 0 _ _ (show 0 < 1 by decide), .d _, .d _, .d _, .d _, .d _, trivial⟩ ⟨⟨show 0 < 1 by decide, _, rfl, .vars ⟨.d _, .d _, trivial⟩⟩, trivial⟩)
      · replace hv := iteF hg11 hv
        refine stepX (c := r10) rfl hg11 ?_
        refine stepX (c := r10) rfl hg11 ?_
        refine stepX (c := r10) rfl hg11 ?_
        refine stepX (c := r10) rfl hg11 ?_
        refine stepX (c := r10) rfl hg11 ?_
        refine stepX (c := r10) rfl hg11 ?_
        refine step (v := .d (.bool false)) (st_pickF (b := r10) rfl hg11 rfl) ?_
        refine step (v := .d (.bool false)) rfl ?_
        have hh := Option.some.inj hv
        subst hh
        exact RunOps.nil' (Norm.mk [0] (by decide) (by decide) (by decide) ⟨.d _, .d _, .ptr 0 _ _ (show 0 < 1 by decide), .d _, .d _, .d _, .d _, .d _, trivial⟩ ⟨⟨show 0 < 1 by decide, _, rfl, .vars ⟨.d _, .d _, trivial⟩⟩, trivial⟩)
    by_cases hc15 : y13 = true
    · replace h := iteT hc15 h
      refine NWp.condT (t := y13) rfl hc15 ?_
      refine NWp.opsJ ⟨tab [(4, .d (.bool true))], stab [], 0⟩ ?_ ?_
      · refine step (v := .d (.bool true)) rfl ?_
        exact RunOps.nil' (Norm.mk [] (by decide) (by decide) (by decide) ⟨.d _, trivial⟩ trivial)
      obtain ⟨r16, kr16, hr⟩ := mapE (o := some true) (g := Br.ret) h
      subst hr
      have h := kr16
      have hh := Option.some.inj h
      subst hh
      refine NWp.ret ?_
      refine And.intro (fun hn => nomatch hn) ?_
      intro hq
      have hq := hq.symm
      subst hq
      show FQ _ _ _ _
      exact FQ.mk1 (.inr rfl) (res_t (v := .d (.bool true)) rfl rfl) (RV.d trivial)
    · replace h := iteF hc15 h
      refine NWp.condF (t := y13) rfl hc15 ?_
      obtain ⟨y18, hv, h⟩ := bindE h
      refine NWp.opsJ ⟨tab [(0, .d (eL (some 2) eapi_Row a0)), (1, .d (.int .i64 a1)), (11, .d (eL (some 2) eapi_Row l1)), (12, .d (.int .i64 (l1.length : Int))), (13, .d (.int .i64 i2)), (33, .d (.bool y18))], stab [], 0⟩ ?_ ?_
      · refine step (v := .d (.bool r10)) rfl ?_
        refine step (v := .d (.bool (!r10))) rfl ?_
        refine step (v := .d (.bool (!r10))) rfl ?_
        by_cases hg16 : (!r10) = true
        · replace hv := iteT hg16 hv
          obtain ⟨r17, hr17, hv⟩ := bindE hv
          refine stepG (c := (!r10)) rfl hg16 ?_
          refine step (v := .d (eapi_Row x8)) (st_ldV (ds := [eL (some 2) eapi_Pair x8.Match, eL none (eL (some 2) eapi_Pair) x8.Acts]) rfl rfl (show 2 ≤ 2 by decide) rfl) ?_
          refine stepG (c := (!r10)) rfl hg16 ?_
          refine step (v := .d (eL (some 2) eapi_Row a0)) rfl ?_
          refine stepG (c := (!r10)) rfl hg16 ?_
          refine step (v := .d (.int .i64 a1)) rfl ?_
          refine stepG (c := (!r10)) rfl hg16 ?_
          refine step (v := .d (.cptr (some 2) (eapi_Row x9) 0)) (st_iaddr (xs := a0) (e := eapi_Row) hx9 rfl rfl) ?_
          refine stepG (c := (!r10)) rfl hg16 ?_
          refine step (v := .d (eapi_Row x9)) rfl ?_
          refine stepG (c := (!r10)) rfl hg16 ?_
          refine stepC (r := .bool r17) (ArgsOk.dt (ArgsOk.dt ArgsOk.nil')) (c_slim_Apart hr17) ?_
          refine stepG (c := (!r10)) rfl hg16 ?_
          refine step (v := .d (.bool (!r17))) rfl ?_
          refine step (v := .d (.bool (!r17))) (st_pickT (b := (!r10)) rfl hg16 rfl) ?_
          refine step (v := .d (.bool (!r17))) rfl ?_
          have hh := Option.some.inj hv
          subst hh
          exact RunOps.nil' (Norm.mk [] (by decide) (by decide) (by decide) ⟨.d _, .d _, .d _, .d _, .d _, .d _, trivial⟩ trivial)
        · replace hv := iteF hg16 hv
          refine stepX (c := (!r10)) rfl hg16 ?_
          refine stepX (c := (!r10)) rfl hg16 ?_
          refine stepX (c := (!r10)) rfl hg16 ?_
          refine stepX (c := (!r10)) rfl hg16 ?_
          refine stepX (c := (!r10)) rfl hg16 ?_
          refine stepX (c := (!r10)) rfl hg16 ?_
          refine stepX (c := (!r10)) rfl hg16 ?_
          refine step (v := .d (.bool false)) (st_pickF (b := (!r10)) rfl hg16 rfl) ?_
          refine step (v := .d (.bool false)) rfl ?_
          have hh := Option.some.inj hv
          subst hh
          exact RunOps.nil' (Norm.mk [] (by decide) (by decide) (by decide) ⟨.d _, .d _, .d _, .d _, .d _, .d _, trivial⟩ trivial)
      by_cases hc20 : y18 = true
      · replace h := iteT hc20 h
        refine NWp.condT (t := y18) rfl hc20 ?_
        refine NWp.opsJ ⟨tab [(4, .d (.bool false))], stab [], 0⟩ ?_ ?_
        · refine step (v := .d (.bool false)) rfl ?_
          exact RunOps.nil' (Norm.mk [] (by decide) (by decide) (by decide) ⟨.d _, trivial⟩ trivial)
        obtain ⟨r21, kr21, hr⟩ := mapE (o := some false) (g := Br.ret) h
        subst hr
        have h := kr21
        have hh := Option.some.inj h
        subst hh
        refine NWp.ret ?_
        refine And.intro (fun hn => nomatch hn) ?_
        intro hq
        have hq := hq.symm
        subst hq
        show FQ _ _ _ _
        exact FQ.mk1 (.inr rfl) (res_t (v := .d (.bool false)) rfl rfl) (RV.d trivial)
      · replace h := iteF hc20 h
        refine NWp.condF (t := y18) rfl hc20 ?_
        refine NWp.skip ?_
        have hh := Option.some.inj h
        subst hh
        refine NWp.opsE ⟨tab [(0, .d (eL (some 2) eapi_Row a0)), (1, .d (.int .i64 a1)), (11, .d (eL (some 2) eapi_Row l1)), (12, .d (.int .i64 (l1.length : Int))), (13, .d (.int .i64 (i2 + 1)))], stab [], 0⟩ ?_ ?_
        · refine step (v := .d (.int .i64 (i2 + 1))) (st_inc (inc_ok hinv5 hgo4 hB3) rfl rfl) ?_
          refine step (v := .d (.int .i64 (i2 + 1))) rfl ?_
          exact RunOps.nil' (Norm.mk [] (by decide) (by decide) (by decide) ⟨.d _, .d _, .d _, .d _, .d _, trivial⟩ trivial)
        exact And.intro rfl rfl
  · rintro i2 ⟨⟩ hinv5 hgo4
    show NWp _ _ _ _ _ ⟨tab [(0, .d (eL (some 2) eapi_Row a0)), (1, .d (.int .i64 a1)), (11, .d (eL (some 2) eapi_Row l1)), (12, .d (.int .i64 (l1.length : Int))), (13, .d (.int .i64 i2))], stab [], 0⟩
    have hc6 : ¬ (decide (i2 < (l1.length : Int)) = true) := fun hq => hgo4 (of_decide_eq_true hq)
    refine NWp.opsJ ⟨tab [(0, .d (eL (some 2) eapi_Row a0)), (1, .d (.int .i64 a1)), (11, .d (eL (some 2) eapi_Row l1)), (12, .d (.int .i64 (l1.length : Int))), (13, .d (.int .i64 i2)), (14, .d (.bool (decide (i2 < (l1.length : Int)))))], stab [], 0⟩ ?_ ?_
    · refine step (v := .d (.bool (decide (i2 < (l1.length : Int))))) rfl ?_
      exact RunOps.nil' (Norm.mk [] (by decide) (by decide) (by decide) ⟨.d _, .d _, .d _, .d _, .d _, .d _, trivial⟩ trivial)
    refine NWp.seq ?_
    refine NWp.condF (t := decide (i2 < (l1.length : Int))) rfl hc6 ?_
    refine NWp.norm (s0 := ⟨tab [], stab [], 0⟩) (Norm.mk [] (by decide) (by decide) (by decide) trivial trivial) ?_
    refine NWp.exit ?_
    exact And.intro rfl rfl
  · intro r' hq
    subst hq
    exact Option.some.inj h
  rintro ⟨⟩ rfl
  refine NWp.opsJ ⟨tab [(4, .d (.bool false))], stab [], 0⟩ ?_ ?_
  · refine step (v := .d (.bool false)) rfl ?_
    exact RunOps.nil' (Norm.mk [] (by decide) (by decide) (by decide) ⟨.d _, trivial⟩ trivial)
  have hh := Option.some.inj h
  subst hh
  refine NWp.ret ?_
  show FQ _ _ _ _
  exact FQ.mk1 (.inr rfl) (res_t (v := .d (.bool false)) rfl rfl) (RV.d trivial)

theorem c_slim_Idle {a0 : (List api_Row)} {a1 : Int} {r : Bool} (h : slim_Idle a0 a1 = some r) : PCall Try.prog 33 [eL (some 2) eapi_Row a0, .int .i64 a1] (.bool r) := by
  refine PCall.introN ok33 (show 2 ≤ 23 by decide) ?_
  refine NWp.norm (s0 := ⟨tab [(0, .d (eL (some 2) eapi_Row a0)), (1, .d (.int .i64 a1))], stab [], 0⟩) (Norm.mk [] (by decide) (by decide) (by decide) ⟨.d _, .d _, trivial⟩ trivial) ?_
  refine NWp.opsJ ⟨tab [(0, .d (eL (some 2) eapi_Row a0)), (1, .d (.int .i64 a1))], stab [], 0⟩ ?_ ?_
  · refine step (v := .d (.bool false)) rfl ?_
    exact RunOps.nil' (Norm.mk [] (by decide) (by decide) (by decide) ⟨.d _, .d _, trivial⟩ trivial)
  obtain ⟨y6, hv, h⟩ := bindE h
  refine NWp.opsJ ⟨tab [(4, .d (.bool y6))], stab [], 0⟩ ?_ ?_
  · refine step (v := .d (.int .i64 a1)) rfl ?_
    refine step (v := .d (.bool (decide (a1 ≥ 0)))) rfl ?_
    refine step (v := .d (.bool (decide (a1 ≥ 0)))) rfl ?_
    by_cases hg1 : decide (a1 ≥ 0) = true
    · replace hv := iteT hg1 hv
      refine stepG (c := decide (a1 ≥ 0)) rfl hg1 ?_
      refine step (v := .d (.int .i64 a1)) rfl ?_
      refine stepG (c := decide (a1 ≥ 0)) rfl hg1 ?_
      refine step (v := .d (eL (some 2) eapi_Row a0)) rfl ?_
      refine stepG (c := decide (a1 ≥ 0)) rfl hg1 ?_
      refine step (v := .d (.int .i64 (a0.length : Int))) (st_len (xs := a0) (e := eapi_Row) rfl) ?_
      refine stepG (c := decide (a1 ≥ 0)) rfl hg1 ?_
      refine step (v := .d (.bool (decide (a1 < (a0.length : Int))))) rfl ?_
      refine step (v := .d (.bool (decide (a1 < (a0.length : Int))))) (st_pickT (b := decide (a1 ≥ 0)) rfl hg1 rfl) ?_
      refine step (v := .d (.bool (decide (a1 < (a0.length : Int))))) rfl ?_
      by_cases hg2 : decide (a1 < (a0.length : Int)) = true
      · replace hv := iteT hg2 hv
        obtain ⟨r3, hr3, hv⟩ := bindE hv
        refine stepG (c := decide (a1 < (a0.length : Int))) rfl hg2 ?_
        refine step (v := .d (eL (some 2) eapi_Row a0)) rfl ?_
        refine stepG (c := decide (a1 < (a0.length : Int))) rfl hg2 ?_
        refine step (v := .d (.int .i64 a1)) rfl ?_
        refine stepG (c := decide (a1 < (a0.length : Int))) rfl hg2 ?_
        refine stepC (r := .bool r3) (ArgsOk.dt (ArgsOk.dt ArgsOk.nil')) (c_slim_covered hr3) ?_
        refine stepG (c := decide (a1 < (a0.length : Int))) rfl hg2 ?_
        refine step (v := .d (.bool r3)) rfl ?_
        by_cases hg4 : r3 = true
        · replace hv := iteT hg4 hv
          refine stepX (c := r3) rfl (by rw [hg4]; decide) ?_
          refine stepX (c := r3) rfl (by rw [hg4]; decide) ?_
          refine stepX (c := r3) rfl (by rw [hg4]; decide) ?_
          refine stepG (c := decide (a1 < (a0.length : Int))) rfl hg2 ?_
          refine step (v := .d (.bool true)) (st_pickT (b := r3) rfl hg4 rfl) ?_
          refine step (v := .d (.bool true)) (st_pickT (b := decide (a1 < (a0.length : Int))) rfl hg2 rfl) ?_
          refine step (v := .d (.bool true)) rfl ?_
          have hh := Option.some.inj hv
          subst hh
          exact RunOps.nil' (Norm.mk [] (by decide) (by decide) (by decide) ⟨.d _, trivial⟩ trivial)
        · replace hv := iteF hg4 hv
          obtain ⟨r5, hr5, hv⟩ := bindE hv
          refine stepG (c := r3) rfl (Bool.eq_false_iff.2 hg4) ?_
          refine step (v := .d (eL (some 2) eapi_Row a0)) rfl ?_
          refine stepG (c := r3) rfl (Bool.eq_false_iff.2 hg4) ?_
          refine step (v := .d (.int .i64 a1)) rfl ?_
          refine stepG (c := r3) rfl (Bool.eq_false_iff.2 hg4) ?_
          refine stepC (r := .bool r5) (ArgsOk.dt (ArgsOk.dt ArgsOk.nil')) (c_slim_spared hr5) ?_
          refine stepG (c := decide (a1 < (a0.length : Int))) rfl hg2 ?_
          refine step (v := .d (.bool r5)) (st_pickF (b := r3) rfl hg4 rfl) ?_
          refine step (v := .d (.bool r5)) (st_pickT (b := decide (a1 < (a0.length : Int))) rfl hg2 rfl) ?_
          refine step (v := .d (.bool r5)) rfl ?_
          have hh := Option.some.inj hv
          subst hh
          exact RunOps.nil' (Norm.mk [] (by decide) (by decide) (by decide) ⟨.d _, trivial⟩ trivial)
      · replace hv := iteF hg2 hv
        refine stepX (c := decide (a1 < (a0.length : Int))) rfl hg2 ?_
        refine stepX (c := decide (a1 < (a0.length : Int))) rfl hg2 ?_
        refine stepX (c := decide (a1 < (a0.length : Int))) rfl hg2 ?_
        refine stepX (c := decide (a1 < (a0.length : Int))) rfl hg2 ?_
        refine stepXX rfl ?_
        refine stepXX rfl ?_
        refine stepXX rfl ?_
        refine stepX (c := decide (a1 < (a0.length : Int))) rfl hg2 ?_
        refine step (v := .d (.bool false)) (st_pickF (b := decide (a1 < (a0.length : Int))) rfl hg2 rfl) ?_
        refine step (v := .d (.bool false)) rfl ?_
        have hh := Option.some.inj hv
        subst hh
        exact RunOps.nil' (Norm.mk [] (by decide) (by decide) (by decide) ⟨.d _, trivial⟩ trivial)
    · replace hv := iteF hg1 hv
      refine stepX (c := decide (a1 ≥ 0)) rfl hg1 ?_
      refine stepX (c := decide (a1 ≥ 0)) rfl hg1 ?_
      refine stepX (c := decide (a1 ≥ 0)) rfl hg1 ?_
      refine stepX (c := decide (a1 ≥ 0)) rfl hg1 ?_
      refine step (v := .d (.bool false)) (st_pickF (b := decide (a1 ≥ 0)) rfl hg1 rfl) ?_
      refine step (v := .d (.bool false)) rfl ?_
      refine stepX (c := false) rfl (by decide) ?_
      refine stepX (c := false) rfl (by decide) ?_
      refine stepX (c := false) rfl (by decide) ?_
      refine stepX (c := false) rfl (by decide) ?_
      refine stepXX rfl ?_
      refine stepXX rfl ?_
      refine stepXX rfl ?_
      refine stepX (c := false) rfl (by decide) ?_
      refine step (v := .d (.bool false)) (st_pickF (b := false) rfl (by decide) rfl) ?_
      refine step (v := .d (.bool false)) rfl ?_
      have hh := Option.some.inj hv
      subst hh
      exact RunOps.nil' (Norm.mk [] (by decide) (by decide) (by decide) ⟨.d _, trivial⟩ trivial)
  have hh := Option.some.inj h
  subst hh
  refine NWp.ret ?_
  show FQ _ _ _ _
  exact FQ.mk1 (.inr rfl) (res_t (v := .d (.bool y6)) rfl rfl) (RV.d trivial)

set_option maxRecDepth 100000 in
theorem lay60 : SlLaysE0.n45 Try.prog ⟨fun _ => 60, fun t => if t = 22 then 70 else if t = 23 then 76 else if t = 0 then 0 else if t = 3 then 3 else if t = 4 then 4 else t, fun x => x⟩ where
  mixed := by kernel_rfl
  f45 := ⟨Try.f60.name, by kernel_rfl, by kernel_rfl⟩
  t0 := Try.underlying0
  a0 := Try.isAgg0
  z0 := Try.sizeOf0
  v0 := Try.zeroValue0
  t3 := Try.underlying3
  a3 := Try.isAgg3
  z3 := Try.sizeOf3
  v3 := Try.zeroValue3
  t4 := Try.underlying4
  a4 := Try.isAgg4
  z4 := Try.sizeOf4
  v4 := Try.zeroValue4
  t22 := Try.underlying70
  a22 := Try.isAgg70
  z22 := Try.sizeOf70
  v22 := Try.zeroValue70

theorem c_slices_Delete_api_Row {a0 : List api_Row} {a1 a2 : Int} {r : List api_Row} (h : slices_Delete_api_Row a0 a1 a2 = some r) : SCall Try.prog 60 [.loc 0 0 a0.length, .d (.int .i64 a1), .d (.int .i64 a2)] (stab [(0, .lst true (some 2) (List.map eapi_Row a0))]) 1 (.loc 0 0 r.length) (stab [(0, .lst true (some 2) (List.map eapi_Row r))]) 1 := by
  unfold slices_Delete_api_Row at h
  split at h
  · rename_i hc
    cases h
    have := SCall.delete lay60 (some 2) (by decide) (by kernel_rfl) Try.sizeOf76 _ Try.zeroValue76 rfl (by decide) (by kernel_rfl) (els := List.map eapi_Row a0) (i := a1.toNat) (j := a2.toNat) (by omega) (by rw [List.length_map]; omega)
    rw [show ((a1.toNat : Nat) : Int) = a1 by omega, show ((a2.toNat : Nat) : Int) = a2 by omega, ← List.map_take, ← List.map_drop, ← List.map_append, List.length_map, List.length_map] at this
    exact this
  · cases h

theorem c_slim_Slim {a0 : (List api_Row)} {r : (List api_Row)} (h : slim_Slim a0 = some r) : PCall Try.prog 38 [eL (some 2) eapi_Row a0] (eL (some 2) eapi_Row r) := by
  refine PCall.introN ok38 (show 1 ≤ 22 by decide) ?_
  refine NWp.norm (s0 := ⟨tab [(0, .d (eL (some 2) eapi_Row a0))], stab [], 0⟩) (Norm.mk [] (by decide) (by decide) (by decide) ⟨.d _, trivial⟩ trivial) ?_
  refine NWp.opsJ ⟨tab [(0, .d (eL (some 2) eapi_Row a0))], stab [], 0⟩ ?_ ?_
  · refine step (v := .d (eL (some 2) eapi_Row ([] : List api_Row))) rfl ?_
    exact RunOps.nil' (Norm.mk [] (by decide) (by decide) (by decide) ⟨.d _, trivial⟩ trivial)
  obtain ⟨r1, hr1, h⟩ := bindE h
  refine NWp.opsJ ⟨tab [(0, .loc 0 0 r1.length)], stab [(0, .lst true (some 2) (List.map eapi_Row r1))], 1⟩ ?_ ?_
  · refine step (v := .d (eL (some 2) eapi_Row a0)) rfl ?_
    refine stepW (v := .loc 0 0 r1.length) (σ' := (upd (stab []) 0 (some (.lst true (some 2) (List.map eapi_Row r1))))) (n' := 1) (SCall.lift [] (c_slices_Clone_api_Row hr1) (show 0 ≤ 1 by decide) (by decide) (show ∀ i ∈ [], i < 0 by decide) (dom_c (show 0 < 1 by decide) dom_n) (VNs.c (.d _) VNs.nil0) SN.nil0) (show 0 ≤ 1 by decide) ?_
    refine step (v := .loc 0 0 r1.length) rfl ?_
    exact RunOps.nil' (Norm.mk [0] (by decide) (by decide) (by decide) ⟨.loc 0 _ _ (show 0 < 1 by decide), trivial⟩ ⟨⟨show 0 < 1 by decide, _, rfl, .lst _ _ _⟩, trivial⟩)
  refine NWp.seq ?_
  refine NWp.opsJ ⟨tab [(0, .loc 0 0 r1.length), (3, .d (.int .i64 (IntKind.i64.wrap ((r1.length : Int) - 1))))], stab [(0, .lst true (some 2) (List.map eapi_Row r1))], 1⟩ ?_ ?_
  · refine step (v := .loc 0 0 r1.length) rfl ?_
    refine step (v := .d (.int .i64 (r1.length : Int))) rfl ?_
    refine step (v := .d (.int .i64 (IntKind.i64.wrap ((r1.length : Int) - 1)))) rfl ?_
    refine step (v := .d (.int .i64 (IntKind.i64.wrap ((r1.length : Int) - 1)))) rfl ?_
    exact RunOps.nil' (Norm.mk [0] (by decide) (by decide) (by decide) ⟨.loc 0 _ _ (show 0 < 1 by decide), .d _, trivial⟩ ⟨⟨show 0 < 1 by decide, _, rfl, .lst _ _ _⟩, trivial⟩)
  obtain ⟨z14, hl, h⟩ := bindE h
  refine NWp.rng 3 rfl fun hA16 => ?_
  refine NWp.block ?_
  refine loop_forO (cntD (-1)) (fun (i3 : Int) (qq : (List api_Row)) => ⟨tab [(0, .loc 0 0 qq.length), (3, .d (.int .i64 i3))], stab [(0, .lst true (some 2) (List.map eapi_Row qq))], 1⟩) 0 (fun (qq : (List api_Row)) => ⟨tab [(0, .loc 0 0 qq.length)], stab [(0, .lst true (some 2) (List.map eapi_Row qq))], 1⟩) (fun i => IntKind.i64.wrap i = i) (fun i hi hg => dec_ok hg (by decide) hi) hl hA16 ?_ ?_ ?_
  · rintro i3 l2 xr8 hinv6 hgo5 h
    show NWp _ _ _ _ _ ⟨tab [(0, .loc 0 0 l2.length), (3, .d (.int .i64 i3))], stab [(0, .lst true (some 2) (List.map eapi_Row l2))], 1⟩
    have hc7 : decide (i3 ≥ 0) = true := decide_eq_true (by omega)
    refine NWp.seq ?_
    refine NWp.opsJ ⟨tab [(0, .loc 0 0 l2.length), (3, .d (.int .i64 i3)), (10, .d (.bool (decide (i3 ≥ 0))))], stab [(0, .lst true (some 2) (List.map eapi_Row l2))], 1⟩ ?_ ?_
    · refine step (v := .d (.int .i64 i3)) rfl ?_
      refine step (v := .d (.bool (decide (i3 ≥ 0)))) rfl ?_
      exact RunOps.nil' (Norm.mk [0] (by decide) (by decide) (by decide) ⟨.loc 0 _ _ (show 0 < 1 by decide), .d _, .d _, trivial⟩ ⟨⟨show 0 < 1 by decide, _, rfl, .lst _ _ _⟩, trivial⟩)
    refine NWp.condT (t := decide (i3 ≥ 0)) rfl hc7 ?_
    refine NWp.skip ?_
    obtain ⟨l12, hv, h⟩ := bindE h
    refine NWp.seqN ⟨tab [(0, .loc 0 0 l12.length), (3, .d (.int .i64 i3))], stab [(0, .lst true (some 2) (List.map eapi_Row l12))], 1⟩ ?_ ?_
    · replace h := hv
      refine NWp.block ?_
      obtain ⟨r9, hr9, h⟩ := bindE h
      refine NWp.opsJ ⟨tab [(0, .loc 0 0 l2.length), (3, .d (.int .i64 i3)), (15, .d (.bool r9))], stab [(0, .lst true (some 2) (List.map eapi_Row l2))], 1⟩ ?_ ?_
      · refine step (v := .loc 0 0 l2.length) rfl ?_
        refine step (v := .d (.int .i64 i3)) rfl ?_
        refine stepW (v := .d (.bool r9)) (σ' := _) (n' := _) (PCall.borrow (c_slim_Idle hr9) rfl (ViewsB.c (viewB_all (xs := l2) (e := eapi_Row) rfl rfl) (ViewsB.c (.d _) ViewsB.nil0))) (Nat.le_refl _) ?_
        exact RunOps.nil' (Norm.mk [0] (by decide) (by decide) (by decide) ⟨.loc 0 _ _ (show 0 < 1 by decide), .d _, .d _, trivial⟩ ⟨⟨show 0 < 1 by decide, _, rfl, .lst _ _ _⟩, trivial⟩)
      by_cases hc10 : r9 = true
      · replace h := iteT hc10 h
        refine NWp.condT (t := r9) rfl hc10 ?_
        obtain ⟨r11, hr11, h⟩ := bindE h
        have hh := Option.some.inj h
        subst hh
        refine NWp.opsE ⟨tab [(0, .loc 0 0 r11.length), (3, .d (.int .i64 i3))], stab [(0, .lst true (some 2) (List.map eapi_Row r11))], 1⟩ ?_ ?_
        · refine step (v := .loc 0 0 l2.length) rfl ?_
          refine step (v := .d (.int .i64 i3)) rfl ?_
          refine step (v := .d (.int .i64 i3)) rfl ?_
          refine step (v := .d (.int .i64 (IntKind.i64.wrap (i3 + 1)))) rfl ?_
          refine stepW (v := .loc 0 0 r11.length) (σ' := (upd (upd (stab [(0, .lst true (some 2) (List.map eapi_Row l2))]) 0 none) 0 (some (.lst true (some 2) (List.map eapi_Row r11))))) (n' := 1) (SCall.lift [0] (c_slices_Delete_api_Row hr11) (show 1 ≤ 1 by decide) (by decide) (show ∀ i ∈ [0], i < 1 by decide) (dom_c (show 0 < 1 by decide) dom_n) (VNs.c (.loc 0 _ _ (show 0 < 1 by decide)) (VNs.c (.d _) (VNs.c (.d _) VNs.nil0))) (SN.c (show 0 < 1 by decide) rfl (.lst _ _ _) SN.nil0)) (show 1 ≤ 1 by decide) ?_
          refine step (v := .loc 0 0 r11.length) rfl ?_
          exact RunOps.nil' (Norm.mk [0] (by decide) (by decide) (by decide) ⟨.loc 0 _ _ (show 0 < 1 by decide), .d _, trivial⟩ ⟨⟨show 0 < 1 by decide, _, rfl, .lst _ _ _⟩, trivial⟩)
        exact And.intro rfl rfl
      · replace h := iteF hc10 h
        refine NWp.condF (t := r9) rfl hc10 ?_
        have hh := Option.some.inj h
        subst hh
        refine NWp.norm (s0 := ⟨tab [(0, .loc 0 0 l2.length), (3, .d (.int .i64 i3))], stab [(0, .lst true (some 2) (List.map eapi_Row l2))], 1⟩) (Norm.mk [0] (by decide) (by decide) (by decide) ⟨.loc 0 _ _ (show 0 < 1 by decide), .d _, trivial⟩ ⟨⟨show 0 < 1 by decide, _, rfl, .lst _ _ _⟩, trivial⟩) ?_
        refine NWp.skip ?_
        exact And.intro rfl rfl
    have hh := Option.some.inj h
    subst hh
    refine NWp.opsE ⟨tab [(0, .loc 0 0 l12.length), (3, .d (.int .i64 (i3 - 1)))], stab [(0, .lst true (some 2) (List.map eapi_Row l12))], 1⟩ ?_ ?_
    · refine step (v := .d (.int .i64 i3)) rfl ?_
      refine step (v := .d (.int .i64 (i3 - 1))) (st_dec (dec_ok hgo5 (by decide) hinv6) rfl rfl) ?_
      refine step (v := .d (.int .i64 (i3 - 1))) rfl ?_
      exact RunOps.nil' (Norm.mk [0] (by decide) (by decide) (by decide) ⟨.loc 0 _ _ (show 0 < 1 by decide), .d _, trivial⟩ ⟨⟨show 0 < 1 by decide, _, rfl, .lst _ _ _⟩, trivial⟩)
    exact And.intro rfl rfl
  · rintro i3 l2 hinv6 hgo5
    show NWp _ _ _ _ _ ⟨tab [(0, .loc 0 0 l2.length), (3, .d (.int .i64 i3))], stab [(0, .lst true (some 2) (List.map eapi_Row l2))], 1⟩
    have hc7 : ¬ (decide (i3 ≥ 0) = true) := fun hq => hgo5 (by have := of_decide_eq_true hq; omega)
    refine NWp.seq ?_
    refine NWp.opsJ ⟨tab [(0, .loc 0 0 l2.length), (3, .d (.int .i64 i3)), (10, .d (.bool (decide (i3 ≥ 0))))], stab [(0, .lst true (some 2) (List.map eapi_Row l2))], 1⟩ ?_ ?_
    · refine step (v := .d (.int .i64 i3)) rfl ?_
      refine step (v := .d (.bool (decide (i3 ≥ 0)))) rfl ?_
      exact RunOps.nil' (Norm.mk [0] (by decide) (by decide) (by decide) ⟨.loc 0 _ _ (show 0 < 1 by decide), .d _, .d _, trivial⟩ ⟨⟨show 0 < 1 by decide, _, rfl, .lst _ _ _⟩, trivial⟩)
    refine NWp.condF (t := decide (i3 ≥ 0)) rfl hc7 ?_
    refine NWp.norm (s0 := ⟨tab [(0, .loc 0 0 l2.length)], stab [(0, .lst true (some 2) (List.map eapi_Row l2))], 1⟩) (Norm.mk [0] (by decide) (by decide) (by decide) ⟨.loc 0 _ _ (show 0 < 1 by decide), trivial⟩ ⟨⟨show 0 < 1 by decide, _, rfl, .lst _ _ _⟩, trivial⟩) ?_
    refine NWp.exit ?_
    exact And.intro rfl rfl
  refine NWp.opsJ ⟨tab [(2, .loc 0 0 z14.length)], stab [(0, .lst true (some 2) (List.map eapi_Row z14))], 1⟩ ?_ ?_
  · refine step (v := .loc 0 0 z14.length) rfl ?_
    refine step (v := .loc 0 0 z14.length) rfl ?_
    exact RunOps.nil' (Norm.mk [0] (by decide) (by decide) (by decide) ⟨.loc 0 _ _ (show 0 < 1 by decide), trivial⟩ ⟨⟨show 0 < 1 by decide, _, rfl, .lst _ _ _⟩, trivial⟩)
  have hh := Option.some.inj h
  subst hh
  refine NWp.ret ?_
  show FQ _ _ _ _
  exact FQ.mk1 (.inr rfl) (res_t (v := .loc 0 0 z14.length) rfl rfl) (RV.loc (xs := z14) (e := eapi_Row) rfl rfl trivial)

theorem c_law26_awake  {r : Bool} (h : law26_awake  = some r) : PCall Try.prog 30 [] (.bool r) := by
  refine PCall.introN ok30 (show 0 ≤ 28 by decide) ?_
  refine NWp.norm (s0 := ⟨tab [], stab [], 0⟩) (Norm.mk [] (by decide) (by decide) (by decide) trivial trivial) ?_
  refine NWp.opsJ ⟨tab [], stab [], 0⟩ ?_ ?_
  · refine step (v := .d (.bool false)) rfl ?_
    exact RunOps.nil' (Norm.mk [] (by decide) (by decide) (by decide) trivial trivial)
  obtain ⟨r1, hr1, h⟩ := bindE h
  refine NWp.opsJ ⟨tab [(1, .d (eL (some 2) eapi_Row r1))], stab [], 0⟩ ?_ ?_
  · refine step (v := .d (eapi_Pair (api_Pair.mk 3 1))) (st_build (ds := [.int .i64 3, .int .u16 1]) rfl) ?_
    refine step (v := .d (eL (some 2) eapi_Pair ([(api_Pair.mk 3 1)] : List api_Pair))) rfl ?_
    refine step (v := .d (eapi_Row (api_Row.mk ([(api_Pair.mk 3 1)] : List api_Pair) []))) (st_build (ds := [eL (some 2) eapi_Pair ([(api_Pair.mk 3 1)] : List api_Pair), eL none (eL (some 2) eapi_Pair) []]) rfl) ?_
    refine step (v := .d (eapi_Row (api_Row.mk [] []))) (st_build (ds := [eL (some 2) eapi_Pair [], eL none (eL (some 2) eapi_Pair) []]) rfl) ?_
    refine step (v := .d (eL (some 2) eapi_Row ([(api_Row.mk ([(api_Pair.mk 3 1)] : List api_Pair) []), (api_Row.mk [] [])] : List api_Row))) rfl ?_
    refine stepC (r := eL (some 2) eapi_Row r1) (ArgsOk.dt ArgsOk.nil') (c_slim_Slim hr1) ?_
    refine step (v := .d (eL (some 2) eapi_Row r1)) rfl ?_
    exact RunOps.nil' (Norm.mk [] (by decide) (by decide) (by decide) ⟨.d _, trivial⟩ trivial)
  obtain ⟨y6, hv, h⟩ := bindE h
  refine NWp.opsJ ⟨tab [(0, .d (.bool y6))], stab [], 0⟩ ?_ ?_
  · refine step (v := .d (eL (some 2) eapi_Row r1)) rfl ?_
    refine step (v := .d (.int .i64 (r1.length : Int))) (st_len (xs := r1) (e := eapi_Row) rfl) ?_
    refine step (v := .d (.bool ((r1.length : Int) == 1))) rfl ?_
    refine step (v := .d (.bool ((r1.length : Int) == 1))) rfl ?_
    by_cases hg2 : ((r1.length : Int) == 1) = true
    · replace hv := iteT hg2 hv
      obtain ⟨x3, hx3, hv⟩ := bindE hv
      refine stepG (c := ((r1.length : Int) == 1)) rfl hg2 ?_
      refine step (v := .d (eL (some 2) eapi_Row r1)) rfl ?_
      refine stepG (c := ((r1.length : Int) == 1)) rfl hg2 ?_
      refine step (v := .d (.cptr (some 2) (eapi_Row x3) 0)) (st_iaddr (xs := r1) (e := eapi_Row) hx3 rfl rfl) ?_
      refine stepG (c := ((r1.length : Int) == 1)) rfl hg2 ?_
      refine step (v := .d (.cptr (some 2) (eapi_Row x3) 0)) rfl ?_
      refine stepG (c := ((r1.length : Int) == 1)) rfl hg2 ?_
      refine step (v := .d (eL (some 2) eapi_Pair x3.Match)) rfl ?_
      refine stepG (c := ((r1.length : Int) == 1)) rfl hg2 ?_
      refine step (v := .d (.int .i64 (x3.Match.length : Int))) (st_len (xs := x3.Match) (e := eapi_Pair) rfl) ?_
      refine stepG (c := ((r1.length : Int) == 1)) rfl hg2 ?_
      refine step (v := .d (.bool ((x3.Match.length : Int) == 0))) rfl ?_
      refine step (v := .d (.bool ((x3.Match.length : Int) == 0))) (st_pickT (b := ((r1.length : Int) == 1)) rfl hg2 rfl) ?_
      refine step (v := .d (.bool ((x3.Match.length : Int) == 0))) rfl ?_
      by_cases hg4 : ((x3.Match.length : Int) == 0) = true
      · replace hv := iteT hg4 hv
        obtain ⟨r5, hr5, hv⟩ := bindE hv
        refine stepG (c := ((x3.Match.length : Int) == 0)) rfl hg4 ?_
        refine step (v := .d (eapi_Pair (api_Pair.mk 3 1))) (st_build (ds := [.int .i64 3, .int .u16 1]) rfl) ?_
        refine stepG (c := ((x3.Match.length : Int) == 0)) rfl hg4 ?_
        refine step (v := .d (eL (some 2) eapi_Pair ([(api_Pair.mk 3 1)] : List api_Pair))) rfl ?_
        refine stepG (c := ((x3.Match.length : Int) == 0)) rfl hg4 ?_
        refine step (v := .d (eapi_Row (api_Row.mk ([(api_Pair.mk 3 1)] : List api_Pair) []))) (st_build (ds := [eL (some 2) eapi_Pair ([(api_Pair.mk 3 1)] : List api_Pair), eL none (eL (some 2) eapi_Pair) []]) rfl) ?_
        refine stepG (c := ((x3.Match.length : Int) == 0)) rfl hg4 ?_
        refine step (v := .d (eapi_Pair (api_Pair.mk 3 2))) (st_build (ds := [.int .i64 3, .int .u16 2]) rfl) ?_
        refine stepG (c := ((x3.Match.length : Int) == 0)) rfl hg4 ?_
        refine step (v := .d (eL (some 2) eapi_Pair ([(api_Pair.mk 3 2)] : List api_Pair))) rfl ?_
        refine stepG (c := ((x3.Match.length : Int) == 0)) rfl hg4 ?_
        refine step (v := .d (eapi_Row (api_Row.mk ([(api_Pair.mk 3 2)] : List api_Pair) []))) (st_build (ds := [eL (some 2) eapi_Pair ([(api_Pair.mk 3 2)] : List api_Pair), eL none (eL (some 2) eapi_Pair) []]) rfl) ?_
        refine stepG (c := ((x3.Match.length : Int) == 0)) rfl hg4 ?_
        refine stepC (r := .bool r5) (ArgsOk.dt (ArgsOk.dt ArgsOk.nil')) (c_slim_Apart hr5) ?_
        refine step (v := .d (.bool r5)) (st_pickT (b := ((x3.Match.length : Int) == 0)) rfl hg4 rfl) ?_
        refine step (v := .d (.bool r5)) rfl ?_
        have hh := Option.some.inj hv
        subst hh
        exact RunOps.nil' (Norm.mk [] (by decide) (by decide) (by decide) ⟨.d _, trivial⟩ trivial)
      · replace hv := iteF hg4 hv
        refine stepX (c := ((x3.Match.length : Int) == 0)) rfl hg4 ?_
        refine stepX (c := ((x3.Match.length : Int) == 0)) rfl hg4 ?_
        refine stepX (c := ((x3.Match.length : Int) == 0)) rfl hg4 ?_
        refine stepX (c := ((x3.Match.length : Int) == 0)) rfl hg4 ?_
        refine stepX (c := ((x3.Match.length : Int) == 0)) rfl hg4 ?_
        refine stepX (c := ((x3.Match.length : Int) == 0)) rfl hg4 ?_
        refine stepX (c := ((x3.Match.length : Int) == 0)) rfl hg4 ?_
        refine step (v := .d (.bool false)) (st_pickF (b := ((x3.Match.length : Int) == 0)) rfl hg4 rfl) ?_
        refine step (v := .d (.bool false)) rfl ?_
        have hh := Option.some.inj hv
        subst hh
        exact RunOps.nil' (Norm.mk [] (by decide) (by decide) (by decide) ⟨.d _, trivial⟩ trivial)
    · replace hv := iteF hg2 hv
      refine stepX (c := ((r1.length : Int) == 1)) rfl hg2 ?_
      refine stepX (c := ((r1.length : Int) == 1)) rfl hg2 ?_
      refine stepX (c := ((r1.length : Int) == 1)) rfl hg2 ?_
      refine stepX (c := ((r1.length : Int) == 1)) rfl hg2 ?_
      refine stepX (c := ((r1.length : Int) == 1)) rfl hg2 ?_
      refine stepX (c := ((r1.length : Int) == 1)) rfl hg2 ?_
      refine step (v := .d (.bool false)) (st_pickF (b := ((r1.length : Int) == 1)) rfl hg2 rfl) ?_
      refine step (v := .d (.bool false)) rfl ?_
      refine stepX (c := false) rfl (by decide) ?_
      refine stepX (c := false) rfl (by decide) ?_
      refine stepX (c := false) rfl (by decide) ?_
      refine stepX (c := false) rfl (by decide) ?_
      refine stepX (c := false) rfl (by decide) ?_
      refine stepX (c := false) rfl (by decide) ?_
      refine stepX (c := false) rfl (by decide) ?_
      refine step (v := .d (.bool false)) (st_pickF (b := false) rfl (by decide) rfl) ?_
      refine step (v := .d (.bool false)) rfl ?_
      have hh := Option.some.inj hv
      subst hh
      exact RunOps.nil' (Norm.mk [] (by decide) (by decide) (by decide) ⟨.d _, trivial⟩ trivial)
  have hh := Option.some.inj h
  subst hh
  refine NWp.ret ?_
  show FQ _ _ _ _
  exact FQ.mk1 (.inr rfl) (res_t (v := .d (.bool y6)) rfl rfl) (RV.d trivial)

theorem c_law09_Few {a0 : (List api_Row)} {r : Bool} (h : law09_Few a0 = some r) : PCall Try.prog 31 [eL (some 2) eapi_Row a0] (.bool r) := by
  refine PCall.introN ok31 (show 1 ≤ 38 by decide) ?_
  refine NWp.norm (s0 := ⟨tab [(0, .d (eL (some 2) eapi_Row a0))], stab [], 0⟩) (Norm.mk [] (by decide) (by decide) (by decide) ⟨.d _, trivial⟩ trivial) ?_
  refine NWp.opsJ ⟨tab [(0, .d (eL (some 2) eapi_Row a0))], stab [], 0⟩ ?_ ?_
  · refine step (v := .d (.bool false)) rfl ?_
    exact RunOps.nil' (Norm.mk [] (by decide) (by decide) (by decide) ⟨.d _, trivial⟩ trivial)
  refine NWp.seq ?_
  refine NWp.opsJ ⟨tab [(0, .d (eL (some 2) eapi_Row a0)), (9, .d (.bool (decide ((a0.length : Int) > 20))))], stab [], 0⟩ ?_ ?_
  · refine step (v := .d (eL (some 2) eapi_Row a0)) rfl ?_
    refine step (v := .d (.int .i64 (a0.length : Int))) (st_len (xs := a0) (e := eapi_Row) rfl) ?_
    refine step (v := .d (.bool (decide ((a0.length : Int) > 20)))) rfl ?_
    exact RunOps.nil' (Norm.mk [] (by decide) (by decide) (by decide) ⟨.d _, .d _, trivial⟩ trivial)
  by_cases hc1 : decide ((a0.length : Int) > 20) = true
  · replace h := iteT hc1 h
    refine NWp.condT (t := decide ((a0.length : Int) > 20)) rfl hc1 ?_
    refine NWp.opsJ ⟨tab [(2, .d (.bool false))], stab [], 0⟩ ?_ ?_
    · refine step (v := .d (.bool false)) rfl ?_
      exact RunOps.nil' (Norm.mk [] (by decide) (by decide) (by decide) ⟨.d _, trivial⟩ trivial)
    have hh := Option.some.inj h
    subst hh
    refine NWp.ret ?_
    show FQ _ _ _ _
    exact FQ.mk1 (.inr rfl) (res_t (v := .d (.bool false)) rfl rfl) (RV.d trivial)
  · replace h := iteF hc1 h
    refine NWp.condF (t := decide ((a0.length : Int) > 20)) rfl hc1 ?_
    refine NWp.skip ?_
    refine NWp.seq ?_
    refine NWp.opsJ ⟨tab [(10, .d (eL (some 2) eapi_Row a0)), (11, .d (.int .i64 (a0.length : Int))), (12, .d (.int .i64 0))], stab [], 0⟩ ?_ ?_
    · refine step (v := .d (eL (some 2) eapi_Row a0)) rfl ?_
      refine step (v := .d (.int .i64 (a0.length : Int))) (st_len (xs := a0) (e := eapi_Row) rfl) ?_
      refine step (v := .d (.int .i64 0)) rfl ?_
      exact RunOps.nil' (Norm.mk [] (by decide) (by decide) (by decide) ⟨.d _, .d _, .d _, trivial⟩ trivial)
    obtain ⟨q20, hl, h⟩ := bindE h
    refine NWp.block ?_
    refine loop_forR (cntU (a0.length : Int)) (fun (i2 : Int) (qq : Unit) => ⟨tab [(10, .d (eL (some 2) eapi_Row a0)), (11, .d (.int .i64 (a0.length : Int))), (12, .d (.int .i64 i2))], stab [], 0⟩) 0 (fun (qq : Unit) => ⟨tab [], stab [], 0⟩) Low low_step (r := r) hl (by unfold Low; omega) ?_ ?_ ?_ ?_
    · rintro i2 ⟨⟩ xr7 hinv5 hgo4 h
      show NWp _ _ _ _ _ ⟨tab [(10, .d (eL (some 2) eapi_Row a0)), (11, .d (.int .i64 (a0.length : Int))), (12, .d (.int .i64 i2))], stab [], 0⟩
      have hc6 : decide (i2 < (a0.length : Int)) = true := decide_eq_true hgo4
      refine NWp.opsJ ⟨tab [(10, .d (eL (some 2) eapi_Row a0)), (11, .d (.int .i64 (a0.length : Int))), (12, .d (.int .i64 i2)), (13, .d (.bool (decide (i2 < (a0.length : Int)))))], stab [], 0⟩ ?_ ?_
      · refine step (v := .d (.bool (decide (i2 < (a0.length : Int))))) rfl ?_
        exact RunOps.nil' (Norm.mk [] (by decide) (by decide) (by decide) ⟨.d _, .d _, .d _, .d _, trivial⟩ trivial)
      refine NWp.rng 11 rfl fun hB3 => ?_
      refine NWp.seq ?_
      refine NWp.condT (t := decide (i2 < (a0.length : Int))) rfl hc6 ?_
      refine NWp.skip ?_
      refine NWp.seq ?_
      refine NWp.block ?_
      obtain ⟨x8, hx8, h⟩ := bindE h
      refine NWp.opsJ ⟨tab [(4, .ptr 0 0 0), (10, .d (eL (some 2) eapi_Row a0)), (11, .d (.int .i64 (a0.length : Int))), (12, .d (.int .i64 i2))], stab [(0, .var [.d (eL (some 2) eapi_Pair x8.Match), .d (eL none (eL (some 2) eapi_Pair) x8.Acts)])], 1⟩ ?_ ?_
      · refine step (v := .d (.cptr (some 2) (eapi_Row x8) 0)) (st_iaddr (xs := a0) (e := eapi_Row) hx8 rfl rfl) ?_
        refine step (v := .d (eapi_Row x8)) rfl ?_
        refine step (v := .ptr 0 0 0) (σ' := (upd (stab []) 0 (some (.var [.d (eL (some 2) eapi_Pair []), .d (eL none (eL (some 2) eapi_Pair) [])])))) (n' := 1) rfl ?_
        refine step (v := V.undef) (σ' := (upd (upd (stab []) 0 (some (.var [.d (eL (some 2) eapi_Pair []), .d (eL none (eL (some 2) eapi_Pair) [])]))) 0 (some (.var [.d (eL (some 2) eapi_Pair x8.Match), .d (eL none (eL (some 2) eapi_Pair) x8.Acts)])))) (n' := 1) rfl ?_
        exact RunOps.nil' (Norm.mk [0] (by decide) (by decide) (by decide) ⟨.ptr 0 _ _ (show 0 < 1 by decide), .d _, .d _, .d _, trivial⟩ ⟨⟨show 0 < 1 by decide, _, rfl, .vars ⟨.d _, .d _, trivial⟩⟩, trivial⟩)
      refine NWp.seq ?_
      refine NWp.opsJ ⟨tab [(4, .ptr 0 0 0), (10, .d (eL (some 2) eapi_Row a0)), (11, .d (.int .i64 (a0.length : Int))), (12, .d (.int .i64 i2)), (25, .d (.bool ((decide ((x8.Match.length : Int) > 10)) || (decide ((x8.Acts.length : Int) > 40)))))], stab [(0, .var [.d (eL (some 2) eapi_Pair x8.Match), .d (eL none (eL (some 2) eapi_Pair) x8.Acts)])], 1⟩ ?_ ?_
      · refine step (v := .ptr 0 0 0) rfl ?_
        refine step (v := .d (eL (some 2) eapi_Pair x8.Match)) rfl ?_
        refine step (v := .d (.int .i64 (x8.Match.length : Int))) (st_len (xs := x8.Match) (e := eapi_Pair) rfl) ?_
        refine step (v := .d (.bool (decide ((x8.Match.length : Int) > 10)))) rfl ?_
        refine step (v := .d (.bool (decide ((x8.Match.length : Int) > 10)))) rfl ?_
        by_cases hg9 : decide ((x8.Match.length : Int) > 10) = true
        · refine stepX (c := decide ((x8.Match.length : Int) > 10)) rfl (by rw [hg9]; decide) ?_
          refine stepX (c := decide ((x8.Match.length : Int) > 10)) rfl (by rw [hg9]; decide) ?_
          refine stepX (c := decide ((x8.Match.length : Int) > 10)) rfl (by rw [hg9]; decide) ?_
          refine stepX (c := decide ((x8.Match.length : Int) > 10)) rfl (by rw [hg9]; decide) ?_
          refine step (v := .d (.bool true)) (st_pickT (b := decide ((x8.Match.length : Int) > 10)) rfl hg9 rfl) ?_
          exact RunOps.nil' (Norm.mk [0] (by decide) (by decide) (by decide) ⟨.ptr 0 _ _ (show 0 < 1 by decide), .d _, .d _, .d _, .eq (by simp [hg9]), trivial⟩ ⟨⟨show 0 < 1 by decide, _, rfl, .vars ⟨.d _, .d _, trivial⟩⟩, trivial⟩)
        · refine stepG (c := decide ((x8.Match.length : Int) > 10)) rfl (Bool.eq_false_iff.2 hg9) ?_
          refine step (v := .ptr 0 0 1) rfl ?_
          refine stepG (c := decide ((x8.Match.length : Int) > 10)) rfl (Bool.eq_false_iff.2 hg9) ?_
          refine step (v := .d (eL none (eL (some 2) eapi_Pair) x8.Acts)) rfl ?_
          refine stepG (c := decide ((x8.Match.length : Int) > 10)) rfl (Bool.eq_false_iff.2 hg9) ?_
          refine step (v := .d (.int .i64 (x8.Acts.length : Int))) (st_len (xs := x8.Acts) (e := (eL (some 2) eapi_Pair)) rfl) ?_
          refine stepG (c := decide ((x8.Match.length : Int) > 10)) rfl (Bool.eq_false_iff.2 hg9) ?_
          refine step (v := .d (.bool (decide ((x8.Acts.length : Int) > 40)))) rfl ?_
          refine step (v := .d (.bool (decide ((x8.Acts.length : Int) > 40)))) (st_pickF (b := decide ((x8.Match.length : Int) > 10)) rfl hg9 rfl) ?_
          exact RunOps.nil' (Norm.mk [0] (by decide) (by decide) (by decide) ⟨.ptr 0 _ _ (show 0 < 1 by decide), .d _, .d _, .d _, .eq (by simp [hg9]), trivial⟩ ⟨⟨show 0 < 1 by decide, _, rfl, .vars ⟨.d _, .d _, trivial⟩⟩, trivial⟩)
      by_cases hc10 : ((decide ((x8.Match.length : Int) > 10)) || (decide ((x8.Acts.length : Int) > 40))) = true
      · replace h := iteT hc10 h
        refine NWp.condT (t := ((decide ((x8.Match.length : Int) > 10)) || (decide ((x8.Acts.length : Int) > 40)))) rfl hc10 ?_
        refine NWp.opsJ ⟨tab [(2, .d (.bool false))], stab [], 0⟩ ?_ ?_
        · refine step (v := .d (.bool false)) rfl ?_
          exact RunOps.nil' (Norm.mk [] (by decide) (by decide) (by decide) ⟨.d _, trivial⟩ trivial)
        obtain ⟨r11, kr11, hr⟩ := mapE (o := some false) (g := Br.ret) h
        subst hr
        have h := kr11
        have hh := Option.some.inj h
        subst hh
        refine NWp.ret ?_
        refine And.intro (fun hn => nomatch hn) ?_
        intro hq
        have hq := hq.symm
        subst hq
        show FQ _ _ _ _
        exact FQ.mk1 (.inr rfl) (res_t (v := .d (.bool false)) rfl rfl) (RV.d trivial)
      · replace h := iteF hc10 h
        refine NWp.condF (t := ((decide ((x8.Match.length : Int) > 10)) || (decide ((x8.Acts.length : Int) > 40)))) rfl hc10 ?_
        refine NWp.skip ?_
        refine NWp.opsJ ⟨tab [(10, .d (eL (some 2) eapi_Row a0)), (11, .d (.int .i64 (a0.length : Int))), (12, .d (.int .i64 i2)), (27, .d (eL none (eL (some 2) eapi_Pair) x8.Acts)), (28, .d (.int .i64 (x8.Acts.length : Int))), (29, .d (.int .i64 0))], stab [], 0⟩ ?_ ?_
        · refine step (v := .ptr 0 0 1) rfl ?_
          refine step (v := .d (eL none (eL (some 2) eapi_Pair) x8.Acts)) rfl ?_
          refine step (v := .d (.int .i64 (x8.Acts.length : Int))) (st_len (xs := x8.Acts) (e := (eL (some 2) eapi_Pair)) rfl) ?_
          refine step (v := .d (.int .i64 0)) rfl ?_
          exact RunOps.nil' (Norm.mk [] (by decide) (by decide) (by decide) ⟨.d _, .d _, .d _, .d _, .d _, .d _, trivial⟩ trivial)
        obtain ⟨q19, hl, h⟩ := bindE h
        refine NWp.block ?_
        refine loop_forR (cntU (x8.Acts.length : Int)) (fun (i11 : Int) (qq : Unit) => ⟨tab [(10, .d (eL (some 2) eapi_Row a0)), (11, .d (.int .i64 (a0.length : Int))), (12, .d (.int .i64 i2)), (27, .d (eL none (eL (some 2) eapi_Pair) x8.Acts)), (28, .d (.int .i64 (x8.Acts.length : Int))), (29, .d (.int .i64 i11))], stab [], 0⟩) 2 (fun (qq : Unit) => ⟨tab [(10, .d (eL (some 2) eapi_Row a0)), (11, .d (.int .i64 (a0.length : Int))), (12, .d (.int .i64 i2))], stab [], 0⟩) Low low_step (r := xr7) hl (by unfold Low; omega) ?_ ?_ ?_ ?_
        · rintro i11 ⟨⟩ xr16 hinv14 hgo13 h
          show NWp _ _ _ _ _ ⟨tab [(10, .d (eL (some 2) eapi_Row a0)), (11, .d (.int .i64 (a0.length : Int))), (12, .d (.int .i64 i2)), (27, .d (eL none (eL (some 2) eapi_Pair) x8.Acts)), (28, .d (.int .i64 (x8.Acts.length : Int))), (29, .d (.int .i64 i11))], stab [], 0⟩
          have hc15 : decide (i11 < (x8.Acts.length : Int)) = true := decide_eq_true hgo13
          refine NWp.opsJ ⟨tab [(10, .d (eL (some 2) eapi_Row a0)), (11, .d (.int .i64 (a0.length : Int))), (12, .d (.int .i64 i2)), (27, .d (eL none (eL (some 2) eapi_Pair) x8.Acts)), (28, .d (.int .i64 (x8.Acts.length : Int))), (29, .d (.int .i64 i11)), (30, .d (.bool (decide (i11 < (x8.Acts.length : Int)))))], stab [], 0⟩ ?_ ?_
          · refine step (v := .d (.bool (decide (i11 < (x8.Acts.length : Int))))) rfl ?_
            exact RunOps.nil' (Norm.mk [] (by decide) (by decide) (by decide) ⟨.d _, .d _, .d _, .d _, .d _, .d _, .d _, trivial⟩ trivial)
          refine NWp.rng 28 rfl fun hB12 => ?_
          refine NWp.seq ?_
          refine NWp.condT (t := decide (i11 < (x8.Acts.length : Int))) rfl hc15 ?_
          refine NWp.skip ?_
          refine NWp.seq ?_
          refine NWp.block ?_
          obtain ⟨x17, hx17, h⟩ := bindE h
          refine NWp.opsJ ⟨tab [(6, .d (eL (some 2) eapi_Pair x17)), (10, .d (eL (some 2) eapi_Row a0)), (11, .d (.int .i64 (a0.length : Int))), (12, .d (.int .i64 i2)), (27, .d (eL none (eL (some 2) eapi_Pair) x8.Acts)), (28, .d (.int .i64 (x8.Acts.length : Int))), (29, .d (.int .i64 i11))], stab [], 0⟩ ?_ ?_
          · refine step (v := .d (.cptr none (eL (some 2) eapi_Pair x17) 0)) (st_iaddr (xs := x8.Acts) (e := (eL (some 2) eapi_Pair)) hx17 rfl rfl) ?_
            refine step (v := .d (eL (some 2) eapi_Pair x17)) rfl ?_
            refine step (v := .d (eL (some 2) eapi_Pair x17)) rfl ?_
            exact RunOps.nil' (Norm.mk [] (by decide) (by decide) (by decide) ⟨.d _, .d _, .d _, .d _, .d _, .d _, .d _, trivial⟩ trivial)
          refine NWp.opsJ ⟨tab [(10, .d (eL (some 2) eapi_Row a0)), (11, .d (.int .i64 (a0.length : Int))), (12, .d (.int .i64 i2)), (27, .d (eL none (eL (some 2) eapi_Pair) x8.Acts)), (28, .d (.int .i64 (x8.Acts.length : Int))), (29, .d (.int .i64 i11)), (35, .d (.bool (decide ((x17.length : Int) > 10))))], stab [], 0⟩ ?_ ?_
          · refine step (v := .d (eL (some 2) eapi_Pair x17)) rfl ?_
            refine step (v := .d (.int .i64 (x17.length : Int))) (st_len (xs := x17) (e := eapi_Pair) rfl) ?_
            refine step (v := .d (.bool (decide ((x17.length : Int) > 10)))) rfl ?_
            exact RunOps.nil' (Norm.mk [] (by decide) (by decide) (by decide) ⟨.d _, .d _, .d _, .d _, .d _, .d _, .d _, trivial⟩ trivial)
          by_cases hc18 : decide ((x17.length : Int) > 10) = true
          · replace h := iteT hc18 h
            refine NWp.condT (t := decide ((x17.length : Int) > 10)) rfl hc18 ?_
            refine NWp.opsJ ⟨tab [(2, .d (.bool false))], stab [], 0⟩ ?_ ?_
            · refine step (v := .d (.bool false)) rfl ?_
              exact RunOps.nil' (Norm.mk [] (by decide) (by decide) (by decide) ⟨.d _, trivial⟩ trivial)
            obtain ⟨r19, kr19, hr⟩ := mapE (o := some (Br.ret false)) (g := Br.ret) h
            subst hr
            have h := kr19
            obtain ⟨r20, kr20, hr⟩ := mapE (o := some false) (g := Br.ret) h
            subst hr
            have h := kr20
            have hh := Option.some.inj h
            subst hh
            refine NWp.ret ?_
            refine And.intro (fun hn => nomatch hn) ?_
            intro hq
            have hq := hq.symm
            subst hq
            refine And.intro (fun hn => nomatch hn) ?_
            intro hq
            have hq := hq.symm
            subst hq
            show FQ _ _ _ _
            exact FQ.mk1 (.inr rfl) (res_t (v := .d (.bool false)) rfl rfl) (RV.d trivial)
          · replace h := iteF hc18 h
            refine NWp.condF (t := decide ((x17.length : Int) > 10)) rfl hc18 ?_
            refine NWp.skip ?_
            have hh := Option.some.inj h
            subst hh
            refine NWp.opsE ⟨tab [(10, .d (eL (some 2) eapi_Row a0)), (11, .d (.int .i64 (a0.length : Int))), (12, .d (.int .i64 i2)), (27, .d (eL none (eL (some 2) eapi_Pair) x8.Acts)), (28, .d (.int .i64 (x8.Acts.length : Int))), (29, .d (.int .i64 (i11 + 1)))], stab [], 0⟩ ?_ ?_
            · refine step (v := .d (.int .i64 (i11 + 1))) (st_inc (inc_ok hinv14 hgo13 hB12) rfl rfl) ?_
              refine step (v := .d (.int .i64 (i11 + 1))) rfl ?_
              exact RunOps.nil' (Norm.mk [] (by decide) (by decide) (by decide) ⟨.d _, .d _, .d _, .d _, .d _, .d _, trivial⟩ trivial)
            exact And.intro rfl rfl
        · rintro i11 ⟨⟩ hinv14 hgo13
          show NWp _ _ _ _ _ ⟨tab [(10, .d (eL (some 2) eapi_Row a0)), (11, .d (.int .i64 (a0.length : Int))), (12, .d (.int .i64 i2)), (27, .d (eL none (eL (some 2) eapi_Pair) x8.Acts)), (28, .d (.int .i64 (x8.Acts.length : Int))), (29, .d (.int .i64 i11))], stab [], 0⟩
          have hc15 : ¬ (decide (i11 < (x8.Acts.length : Int)) = true) := fun hq => hgo13 (of_decide_eq_true hq)
          refine NWp.opsJ ⟨tab [(10, .d (eL (some 2) eapi_Row a0)), (11, .d (.int .i64 (a0.length : Int))), (12, .d (.int .i64 i2)), (27, .d (eL none (eL (some 2) eapi_Pair) x8.Acts)), (28, .d (.int .i64 (x8.Acts.length : Int))), (29, .d (.int .i64 i11)), (30, .d (.bool (decide (i11 < (x8.Acts.length : Int)))))], stab [], 0⟩ ?_ ?_
          · refine step (v := .d (.bool (decide (i11 < (x8.Acts.length : Int))))) rfl ?_
            exact RunOps.nil' (Norm.mk [] (by decide) (by decide) (by decide) ⟨.d _, .d _, .d _, .d _, .d _, .d _, .d _, trivial⟩ trivial)
          refine NWp.seq ?_
          refine NWp.condF (t := decide (i11 < (x8.Acts.length : Int))) rfl hc15 ?_
          refine NWp.norm (s0 := ⟨tab [(10, .d (eL (some 2) eapi_Row a0)), (11, .d (.int .i64 (a0.length : Int))), (12, .d (.int .i64 i2))], stab [], 0⟩) (Norm.mk [] (by decide) (by decide) (by decide) ⟨.d _, .d _, .d _, trivial⟩ trivial) ?_
          refine NWp.exit ?_
          exact And.intro rfl rfl
        · intro r' hq
          subst hq
          exact Option.some.inj h
        rintro ⟨⟩ rfl
        have hh := Option.some.inj h
        subst hh
        refine NWp.opsE ⟨tab [(10, .d (eL (some 2) eapi_Row a0)), (11, .d (.int .i64 (a0.length : Int))), (12, .d (.int .i64 (i2 + 1)))], stab [], 0⟩ ?_ ?_
        · refine step (v := .d (.int .i64 (i2 + 1))) (st_inc (inc_ok hinv5 hgo4 hB3) rfl rfl) ?_
          refine step (v := .d (.int .i64 (i2 + 1))) rfl ?_
          exact RunOps.nil' (Norm.mk [] (by decide) (by decide) (by decide) ⟨.d _, .d _, .d _, trivial⟩ trivial)
        exact And.intro rfl rfl
    · rintro i2 ⟨⟩ hinv5 hgo4
      show NWp _ _ _ _ _ ⟨tab [(10, .d (eL (some 2) eapi_Row a0)), (11, .d (.int .i64 (a0.length : Int))), (12, .d (.int .i64 i2))], stab [], 0⟩
      have hc6 : ¬ (decide (i2 < (a0.length : Int)) = true) := fun hq => hgo4 (of_decide_eq_true hq)
      refine NWp.opsJ ⟨tab [(10, .d (eL (some 2) eapi_Row a0)), (11, .d (.int .i64 (a0.length : Int))), (12, .d (.int .i64 i2)), (13, .d (.bool (decide (i2 < (a0.length : Int)))))], stab [], 0⟩ ?_ ?_
      · refine step (v := .d (.bool (decide (i2 < (a0.length : Int))))) rfl ?_
        exact RunOps.nil' (Norm.mk [] (by decide) (by decide) (by decide) ⟨.d _, .d _, .d _, .d _, trivial⟩ trivial)
      refine NWp.seq ?_
      refine NWp.condF (t := decide (i2 < (a0.length : Int))) rfl hc6 ?_
      refine NWp.norm (s0 := ⟨tab [], stab [], 0⟩) (Norm.mk [] (by decide) (by decide) (by decide) trivial trivial) ?_
      refine NWp.exit ?_
      exact And.intro rfl rfl
    · intro r' hq
      subst hq
      exact Option.some.inj h
    rintro ⟨⟩ rfl
    refine NWp.opsJ ⟨tab [(2, .d (.bool true))], stab [], 0⟩ ?_ ?_
    · refine step (v := .d (.bool true)) rfl ?_
      exact RunOps.nil' (Norm.mk [] (by decide) (by decide) (by decide) ⟨.d _, trivial⟩ trivial)
    have hh := Option.some.inj h
    subst hh
    refine NWp.ret ?_
    show FQ _ _ _ _
    exact FQ.mk1 (.inr rfl) (res_t (v := .d (.bool true)) rfl rfl) (RV.d trivial)

theorem c_ref08_Rising {a0 : (List api_Pair)} {r : Bool} (h : ref08_Rising a0 = some r) : PCall Try.prog 50 [eL (some 2) eapi_Pair a0] (.bool r) := by
  refine PCall.introN ok50 (show 1 ≤ 42 by decide) ?_
  refine NWp.norm (s0 := ⟨tab [(0, .d (eL (some 2) eapi_Pair a0))], stab [], 0⟩) (Norm.mk [] (by decide) (by decide) (by decide) ⟨.d _, trivial⟩ trivial) ?_
  refine NWp.opsJ ⟨tab [(0, .d (eL (some 2) eapi_Pair a0))], stab [], 0⟩ ?_ ?_
  · refine step (v := .d (.bool false)) rfl ?_
    exact RunOps.nil' (Norm.mk [] (by decide) (by decide) (by decide) ⟨.d _, trivial⟩ trivial)
  refine NWp.seq ?_
  refine NWp.opsJ ⟨tab [(0, .d (eL (some 2) eapi_Pair a0)), (3, .d (.int .i64 0))], stab [], 0⟩ ?_ ?_
  · refine step (v := .d (.int .i64 0)) rfl ?_
    exact RunOps.nil' (Norm.mk [] (by decide) (by decide) (by decide) ⟨.d _, .d _, trivial⟩ trivial)
  obtain ⟨q15, hl, h⟩ := bindE h
  refine NWp.block ?_
  refine loop_forR (cntU (a0.length : Int)) (fun (i1 : Int) (qq : Unit) => ⟨tab [(0, .d (eL (some 2) eapi_Pair a0)), (3, .d (.int .i64 i1))], stab [], 0⟩) 0 (fun (qq : Unit) => ⟨tab [], stab [], 0⟩) Low low_step (r := r) hl (by unfold Low; omega) ?_ ?_ ?_ ?_
  · rintro i1 ⟨⟩ xr6 hinv4 hgo3 h
    show NWp _ _ _ _ _ ⟨tab [(0, .d (eL (some 2) eapi_Pair a0)), (3, .d (.int .i64 i1))], stab [], 0⟩
    have hc5 : decide (i1 < (a0.length : Int)) = true := decide_eq_true hgo3
    refine NWp.seq ?_
    refine NWp.opsJ ⟨tab [(0, .d (eL (some 2) eapi_Pair a0)), (3, .d (.int .i64 i1)), (6, .d (.int .i64 (a0.length : Int))), (7, .d (.bool (decide (i1 < (a0.length : Int)))))], stab [], 0⟩ ?_ ?_
    · refine step (v := .d (.int .i64 i1)) rfl ?_
      refine step (v := .d (eL (some 2) eapi_Pair a0)) rfl ?_
      refine step (v := .d (.int .i64 (a0.length : Int))) (st_len (xs := a0) (e := eapi_Pair) rfl) ?_
      refine step (v := .d (.bool (decide (i1 < (a0.length : Int))))) rfl ?_
      exact RunOps.nil' (Norm.mk [] (by decide) (by decide) (by decide) ⟨.d _, .d _, .d _, .d _, trivial⟩ trivial)
    refine NWp.rng 6 rfl fun hB2 => ?_
    refine NWp.condT (t := decide (i1 < (a0.length : Int))) rfl hc5 ?_
    refine NWp.skip ?_
    refine NWp.seq ?_
    refine NWp.block ?_
    obtain ⟨x7, hx7, h⟩ := bindE h
    obtain ⟨y12, hv, h⟩ := bindE h
    refine NWp.opsJ ⟨tab [(0, .d (eL (some 2) eapi_Pair a0)), (3, .d (.int .i64 i1)), (41, .d (.bool y12))], stab [], 0⟩ ?_ ?_
    · refine step (v := .d (eL (some 2) eapi_Pair a0)) rfl ?_
      refine step (v := .d (.int .i64 i1)) rfl ?_
      refine step (v := .d (.cptr (some 2) (eapi_Pair x7) 0)) (st_iaddr (xs := a0) (e := eapi_Pair) hx7 rfl rfl) ?_
      refine step (v := .d (.cptr (some 2) (eapi_Pair x7) 0)) rfl ?_
      refine step (v := .d (.int .i64 x7.F)) rfl ?_
      refine step (v := .d (.bool (decide (x7.F < 0)))) rfl ?_
      refine step (v := .d (.bool (decide (x7.F < 0)))) rfl ?_
      by_cases hg8 : decide (x7.F < 0) = true
      · replace hv := iteT hg8 hv
        refine stepX (c := decide (x7.F < 0)) rfl (by rw [hg8]; decide) ?_
        refine stepX (c := decide (x7.F < 0)) rfl (by rw [hg8]; decide) ?_
        refine stepX (c := decide (x7.F < 0)) rfl (by rw [hg8]; decide) ?_
        refine stepX (c := decide (x7.F < 0)) rfl (by rw [hg8]; decide) ?_
        refine stepX (c := decide (x7.F < 0)) rfl (by rw [hg8]; decide) ?_
        refine stepX (c := decide (x7.F < 0)) rfl (by rw [hg8]; decide) ?_
        refine step (v := .d (.bool true)) (st_pickT (b := decide (x7.F < 0)) rfl hg8 rfl) ?_
        refine step (v := .d (.bool true)) rfl ?_
        refine stepX (c := true) rfl (by decide) ?_
        refine stepX (c := true) rfl (by decide) ?_
        refine stepX (c := true) rfl (by decide) ?_
        refine stepXX rfl ?_
        refine stepXX rfl ?_
        refine stepXX rfl ?_
        refine stepXX rfl ?_
        refine stepXX rfl ?_
        refine stepXX rfl ?_
        refine stepXX rfl ?_
        refine stepXX rfl ?_
        refine stepXX rfl ?_
        refine stepXX rfl ?_
        refine stepXX rfl ?_
        refine stepXX rfl ?_
        refine stepX (c := true) rfl (by decide) ?_
        refine step (v := .d (.bool true)) (st_pickT (b := true) rfl rfl rfl) ?_
        have hh := Option.some.inj hv
        subst hh
        exact RunOps.nil' (Norm.mk [] (by decide) (by decide) (by decide) ⟨.d _, .d _, .d _, trivial⟩ trivial)
      · replace hv := iteF hg8 hv
        refine stepG (c := decide (x7.F < 0)) rfl (Bool.eq_false_iff.2 hg8) ?_
        refine step (v := .d (eL (some 2) eapi_Pair a0)) rfl ?_
        refine stepG (c := decide (x7.F < 0)) rfl (Bool.eq_false_iff.2 hg8) ?_
        refine step (v := .d (.int .i64 i1)) rfl ?_
        refine stepG (c := decide (x7.F < 0)) rfl (Bool.eq_false_iff.2 hg8) ?_
        refine step (v := .d (.cptr (some 2) (eapi_Pair x7) 0)) (st_iaddr (xs := a0) (e := eapi_Pair) hx7 rfl rfl) ?_
        refine stepG (c := decide (x7.F < 0)) rfl (Bool.eq_false_iff.2 hg8) ?_
        refine step (v := .d (.cptr (some 2) (eapi_Pair x7) 0)) rfl ?_
        refine stepG (c := decide (x7.F < 0)) rfl (Bool.eq_false_iff.2 hg8) ?_
        refine step (v := .d (.int .i64 x7.F)) rfl ?_
        refine stepG (c := decide (x7.F < 0)) rfl (Bool.eq_false_iff.2 hg8) ?_
        refine step (v := .d (.bool (decide (x7.F > 7)))) rfl ?_
        refine step (v := .d (.bool (decide (x7.F > 7)))) (st_pickF (b := decide (x7.F < 0)) rfl hg8 rfl) ?_
        refine step (v := .d (.bool (decide (x7.F > 7)))) rfl ?_
        by_cases hg9 : decide (x7.F > 7) = true
        · replace hv := iteT hg9 hv
          refine stepX (c := decide (x7.F > 7)) rfl (by rw [hg9]; decide) ?_
          refine stepX (c := decide (x7.F > 7)) rfl (by rw [hg9]; decide) ?_
          refine stepX (c := decide (x7.F > 7)) rfl (by rw [hg9]; decide) ?_
          refine stepXX rfl ?_
          refine stepXX rfl ?_
          refine stepXX rfl ?_
          refine stepXX rfl ?_
          refine stepXX rfl ?_
          refine stepXX rfl ?_
          refine stepXX rfl ?_
          refine stepXX rfl ?_
          refine stepXX rfl ?_
          refine stepXX rfl ?_
          refine stepXX rfl ?_
          refine stepXX rfl ?_
          refine stepX (c := decide (x7.F > 7)) rfl (by rw [hg9]; decide) ?_
          refine step (v := .d (.bool true)) (st_pickT (b := decide (x7.F > 7)) rfl hg9 rfl) ?_
          have hh := Option.some.inj hv
          subst hh
          exact RunOps.nil' (Norm.mk [] (by decide) (by decide) (by decide) ⟨.d _, .d _, .d _, trivial⟩ trivial)
        · replace hv := iteF hg9 hv
          refine stepG (c := decide (x7.F > 7)) rfl (Bool.eq_false_iff.2 hg9) ?_
          refine step (v := .d (.int .i64 i1)) rfl ?_
          refine stepG (c := decide (x7.F > 7)) rfl (Bool.eq_false_iff.2 hg9) ?_
          refine step (v := .d (.bool (decide (i1 > 0)))) rfl ?_
          refine stepG (c := decide (x7.F > 7)) rfl (Bool.eq_false_iff.2 hg9) ?_
          refine step (v := .d (.bool (decide (i1 > 0)))) rfl ?_
          by_cases hg10 : decide (i1 > 0) = true
          · replace hv := iteT hg10 hv
            obtain ⟨x11, hx11, hv⟩ := bindE hv
            refine stepG (c := decide (i1 > 0)) rfl hg10 ?_
            refine step (v := .d (eL (some 2) eapi_Pair a0)) rfl ?_
            refine stepG (c := decide (i1 > 0)) rfl hg10 ?_
            refine step (v := .d (.int .i64 i1)) rfl ?_
            refine stepG (c := decide (i1 > 0)) rfl hg10 ?_
            refine step (v := .d (.int .i64 (IntKind.i64.wrap (i1 - 1)))) rfl ?_
            refine stepG (c := decide (i1 > 0)) rfl hg10 ?_
            refine step (v := .d (.cptr (some 2) (eapi_Pair x11) 0)) (st_iaddr (xs := a0) (e := eapi_Pair) hx11 rfl rfl) ?_
            refine stepG (c := decide (i1 > 0)) rfl hg10 ?_
            refine step (v := .d (.cptr (some 2) (eapi_Pair x11) 0)) rfl ?_
            refine stepG (c := decide (i1 > 0)) rfl hg10 ?_
            refine step (v := .d (.int .i64 x11.F)) rfl ?_
            refine stepG (c := decide (i1 > 0)) rfl hg10 ?_
            refine step (v := .d (eL (some 2) eapi_Pair a0)) rfl ?_
            refine stepG (c := decide (i1 > 0)) rfl hg10 ?_
            refine step (v := .d (.int .i64 i1)) rfl ?_
            refine stepG (c := decide (i1 > 0)) rfl hg10 ?_
            refine step (v := .d (.cptr (some 2) (eapi_Pair x7) 0)) (st_iaddr (xs := a0) (e := eapi_Pair) hx7 rfl rfl) ?_
            refine stepG (c := decide (i1 > 0)) rfl hg10 ?_
            refine step (v := .d (.cptr (some 2) (eapi_Pair x7) 0)) rfl ?_
            refine stepG (c := decide (i1 > 0)) rfl hg10 ?_
            refine step (v := .d (.int .i64 x7.F)) rfl ?_
            refine stepG (c := decide (i1 > 0)) rfl hg10 ?_
            refine step (v := .d (.bool (decide (x11.F ≥ x7.F)))) rfl ?_
            refine stepG (c := decide (x7.F > 7)) rfl (Bool.eq_false_iff.2 hg9) ?_
            refine step (v := .d (.bool (decide (x11.F ≥ x7.F)))) (st_pickT (b := decide (i1 > 0)) rfl hg10 rfl) ?_
            refine step (v := .d (.bool (decide (x11.F ≥ x7.F)))) (st_pickF (b := decide (x7.F > 7)) rfl hg9 rfl) ?_
            have hh := Option.some.inj hv
            subst hh
            exact RunOps.nil' (Norm.mk [] (by decide) (by decide) (by decide) ⟨.d _, .d _, .d _, trivial⟩ trivial)
          · replace hv := iteF hg10 hv
            refine stepX (c := decide (i1 > 0)) rfl hg10 ?_
            refine stepX (c := decide (i1 > 0)) rfl hg10 ?_
            refine stepX (c := decide (i1 > 0)) rfl hg10 ?_
            refine stepX (c := decide (i1 > 0)) rfl hg10 ?_
            refine stepX (c := decide (i1 > 0)) rfl hg10 ?_
            refine stepX (c := decide (i1 > 0)) rfl hg10 ?_
            refine stepX (c := decide (i1 > 0)) rfl hg10 ?_
            refine stepX (c := decide (i1 > 0)) rfl hg10 ?_
            refine stepX (c := decide (i1 > 0)) rfl hg10 ?_
            refine stepX (c := decide (i1 > 0)) rfl hg10 ?_
            refine stepX (c := decide (i1 > 0)) rfl hg10 ?_
            refine stepX (c := decide (i1 > 0)) rfl hg10 ?_
            refine stepG (c := decide (x7.F > 7)) rfl (Bool.eq_false_iff.2 hg9) ?_
            refine step (v := .d (.bool false)) (st_pickF (b := decide (i1 > 0)) rfl hg10 rfl) ?_
            refine step (v := .d (.bool false)) (st_pickF (b := decide (x7.F > 7)) rfl hg9 rfl) ?_
            have hh := Option.some.inj hv
            subst hh
            exact RunOps.nil' (Norm.mk [] (by decide) (by decide) (by decide) ⟨.d _, .d _, .d _, trivial⟩ trivial)
    by_cases hc14 : y12 = true
    · replace h := iteT hc14 h
      refine NWp.condT (t := y12) rfl hc14 ?_
      refine NWp.opsJ ⟨tab [(2, .d (.bool false))], stab [], 0⟩ ?_ ?_
      · refine step (v := .d (.bool false)) rfl ?_
        exact RunOps.nil' (Norm.mk [] (by decide) (by decide) (by decide) ⟨.d _, trivial⟩ trivial)
      obtain ⟨r15, kr15, hr⟩ := mapE (o := some false) (g := Br.ret) h
      subst hr
      have h := kr15
      have hh := Option.some.inj h
      subst hh
      refine NWp.ret ?_
      refine And.intro (fun hn => nomatch hn) ?_
      intro hq
      have hq := hq.symm
      subst hq
      show FQ _ _ _ _
      exact FQ.mk1 (.inr rfl) (res_t (v := .d (.bool false)) rfl rfl) (RV.d trivial)
    · replace h := iteF hc14 h
      refine NWp.condF (t := y12) rfl hc14 ?_
      refine NWp.skip ?_
      have hh := Option.some.inj h
      subst hh
      refine NWp.opsE ⟨tab [(0, .d (eL (some 2) eapi_Pair a0)), (3, .d (.int .i64 (i1 + 1)))], stab [], 0⟩ ?_ ?_
      · refine step (v := .d (.int .i64 i1)) rfl ?_
        refine step (v := .d (.int .i64 (i1 + 1))) (st_inc (inc_ok hinv4 hgo3 hB2) rfl rfl) ?_
        refine step (v := .d (.int .i64 (i1 + 1))) rfl ?_
        exact RunOps.nil' (Norm.mk [] (by decide) (by decide) (by decide) ⟨.d _, .d _, trivial⟩ trivial)
      exact And.intro rfl rfl
  · rintro i1 ⟨⟩ hinv4 hgo3
    show NWp _ _ _ _ _ ⟨tab [(0, .d (eL (some 2) eapi_Pair a0)), (3, .d (.int .i64 i1))], stab [], 0⟩
    have hc5 : ¬ (decide (i1 < (a0.length : Int)) = true) := fun hq => hgo3 (of_decide_eq_true hq)
    refine NWp.seq ?_
    refine NWp.opsJ ⟨tab [(0, .d (eL (some 2) eapi_Pair a0)), (3, .d (.int .i64 i1)), (7, .d (.bool (decide (i1 < (a0.length : Int)))))], stab [], 0⟩ ?_ ?_
    · refine step (v := .d (.int .i64 i1)) rfl ?_
      refine step (v := .d (eL (some 2) eapi_Pair a0)) rfl ?_
      refine step (v := .d (.int .i64 (a0.length : Int))) (st_len (xs := a0) (e := eapi_Pair) rfl) ?_
      refine step (v := .d (.bool (decide (i1 < (a0.length : Int))))) rfl ?_
      exact RunOps.nil' (Norm.mk [] (by decide) (by decide) (by decide) ⟨.d _, .d _, .d _, trivial⟩ trivial)
    refine NWp.condF (t := decide (i1 < (a0.length : Int))) rfl hc5 ?_
    refine NWp.norm (s0 := ⟨tab [], stab [], 0⟩) (Norm.mk [] (by decide) (by decide) (by decide) trivial trivial) ?_
    refine NWp.exit ?_
    exact And.intro rfl rfl
  · intro r' hq
    subst hq
    exact Option.some.inj h
  rintro ⟨⟩ rfl
  refine NWp.opsJ ⟨tab [(2, .d (.bool true))], stab [], 0⟩ ?_ ?_
  · refine step (v := .d (.bool true)) rfl ?_
    exact RunOps.nil' (Norm.mk [] (by decide) (by decide) (by decide) ⟨.d _, trivial⟩ trivial)
  have hh := Option.some.inj h
  subst hh
  refine NWp.ret ?_
  show FQ _ _ _ _
  exact FQ.mk1 (.inr rfl) (res_t (v := .d (.bool true)) rfl rfl) (RV.d trivial)

theorem c_ref09_Right {a0 : (List api_Row)} {r : Bool} (h : ref09_Right a0 = some r) : PCall Try.prog 32 [eL (some 2) eapi_Row a0] (.bool r) := by
  refine PCall.introN ok32 (show 1 ≤ 50 by decide) ?_
  refine NWp.norm (s0 := ⟨tab [(0, .d (eL (some 2) eapi_Row a0))], stab [], 0⟩) (Norm.mk [] (by decide) (by decide) (by decide) ⟨.d _, trivial⟩ trivial) ?_
  refine NWp.opsJ ⟨tab [(0, .d (eL (some 2) eapi_Row a0))], stab [], 0⟩ ?_ ?_
  · refine step (v := .d (.bool false)) rfl ?_
    exact RunOps.nil' (Norm.mk [] (by decide) (by decide) (by decide) ⟨.d _, trivial⟩ trivial)
  refine NWp.seq ?_
  refine NWp.opsJ ⟨tab [(0, .d (eL (some 2) eapi_Row a0)), (3, .d (.int .i64 0))], stab [], 0⟩ ?_ ?_
  · refine step (v := .d (.int .i64 0)) rfl ?_
    exact RunOps.nil' (Norm.mk [] (by decide) (by decide) (by decide) ⟨.d _, .d _, trivial⟩ trivial)
  obtain ⟨q21, hl, h⟩ := bindE h
  refine NWp.block ?_
  refine loop_forR (cntU (a0.length : Int)) (fun (i1 : Int) (qq : Unit) => ⟨tab [(0, .d (eL (some 2) eapi_Row a0)), (3, .d (.int .i64 i1))], stab [], 0⟩) 0 (fun (qq : Unit) => ⟨tab [(0, .d (eL (some 2) eapi_Row a0))], stab [], 0⟩) Low low_step (r := r) hl (by unfold Low; omega) ?_ ?_ ?_ ?_
  · rintro i1 ⟨⟩ xr6 hinv4 hgo3 h
    show NWp _ _ _ _ _ ⟨tab [(0, .d (eL (some 2) eapi_Row a0)), (3, .d (.int .i64 i1))], stab [], 0⟩
    have hc5 : decide (i1 < (a0.length : Int)) = true := decide_eq_true hgo3
    refine NWp.seq ?_
    refine NWp.opsJ ⟨tab [(0, .d (eL (some 2) eapi_Row a0)), (3, .d (.int .i64 i1)), (7, .d (.int .i64 (a0.length : Int))), (8, .d (.bool (decide (i1 < (a0.length : Int)))))], stab [], 0⟩ ?_ ?_
    · refine step (v := .d (.int .i64 i1)) rfl ?_
      refine step (v := .d (eL (some 2) eapi_Row a0)) rfl ?_
      refine step (v := .d (.int .i64 (a0.length : Int))) (st_len (xs := a0) (e := eapi_Row) rfl) ?_
      refine step (v := .d (.bool (decide (i1 < (a0.length : Int))))) rfl ?_
      exact RunOps.nil' (Norm.mk [] (by decide) (by decide) (by decide) ⟨.d _, .d _, .d _, .d _, trivial⟩ trivial)
    refine NWp.rng 7 rfl fun hB2 => ?_
    refine NWp.condT (t := decide (i1 < (a0.length : Int))) rfl hc5 ?_
    refine NWp.skip ?_
    refine NWp.seq ?_
    refine NWp.block ?_
    refine NWp.seq ?_
    obtain ⟨x7, hx7, h⟩ := bindE h
    obtain ⟨r8, hr8, h⟩ := bindE h
    refine NWp.opsJ ⟨tab [(0, .d (eL (some 2) eapi_Row a0)), (3, .d (.int .i64 i1)), (26, .d (.bool ((!r8) || (decide ((x7.Acts.length : Int) > 32)))))], stab [], 0⟩ ?_ ?_
    · refine step (v := .d (eL (some 2) eapi_Row a0)) rfl ?_
      refine step (v := .d (.int .i64 i1)) rfl ?_
      refine step (v := .d (.cptr (some 2) (eapi_Row x7) 0)) (st_iaddr (xs := a0) (e := eapi_Row) hx7 rfl rfl) ?_
      refine step (v := .d (.cptr (some 2) (eapi_Row x7) 0)) rfl ?_
      refine step (v := .d (eL (some 2) eapi_Pair x7.Match)) rfl ?_
      refine stepC (r := .bool r8) (ArgsOk.dt ArgsOk.nil') (c_ref08_Rising hr8) ?_
      refine step (v := .d (.bool (!r8))) rfl ?_
      refine step (v := .d (.bool (!r8))) rfl ?_
      by_cases hg9 : (!r8) = true
      · refine stepX (c := (!r8)) rfl (by rw [hg9]; decide) ?_
        refine stepX (c := (!r8)) rfl (by rw [hg9]; decide) ?_
        refine stepX (c := (!r8)) rfl (by rw [hg9]; decide) ?_
        refine stepX (c := (!r8)) rfl (by rw [hg9]; decide) ?_
        refine stepX (c := (!r8)) rfl (by rw [hg9]; decide) ?_
        refine stepX (c := (!r8)) rfl (by rw [hg9]; decide) ?_
        refine stepX (c := (!r8)) rfl (by rw [hg9]; decide) ?_
        refine step (v := .d (.bool true)) (st_pickT (b := (!r8)) rfl hg9 rfl) ?_
        exact RunOps.nil' (Norm.mk [] (by decide) (by decide) (by decide) ⟨.d _, .d _, .eq (by simp [hg9]), trivial⟩ trivial)
      · refine stepG (c := (!r8)) rfl (Bool.eq_false_iff.2 hg9) ?_
        refine step (v := .d (eL (some 2) eapi_Row a0)) rfl ?_
        refine stepG (c := (!r8)) rfl (Bool.eq_false_iff.2 hg9) ?_
        refine step (v := .d (.int .i64 i1)) rfl ?_
        refine stepG (c := (!r8)) rfl (Bool.eq_false_iff.2 hg9) ?_
        refine step (v := .d (.cptr (some 2) (eapi_Row x7) 0)) (st_iaddr (xs := a0) (e := eapi_Row) hx7 rfl rfl) ?_
        refine stepG (c := (!r8)) rfl (Bool.eq_false_iff.2 hg9) ?_
        refine step (v := .d (.cptr (some 2) (eapi_Row x7) 1)) rfl ?_
        refine stepG (c := (!r8)) rfl (Bool.eq_false_iff.2 hg9) ?_
        refine step (v := .d (eL none (eL (some 2) eapi_Pair) x7.Acts)) rfl ?_
        refine stepG (c := (!r8)) rfl (Bool.eq_false_iff.2 hg9) ?_
        refine step (v := .d (.int .i64 (x7.Acts.length : Int))) (st_len (xs := x7.Acts) (e := (eL (some 2) eapi_Pair)) rfl) ?_
        refine stepG (c := (!r8)) rfl (Bool.eq_false_iff.2 hg9) ?_
        refine step (v := .d (.bool (decide ((x7.Acts.length : Int) > 32)))) rfl ?_
        refine step (v := .d (.bool (decide ((x7.Acts.length : Int) > 32)))) (st_pickF (b := (!r8)) rfl hg9 rfl) ?_
        exact RunOps.nil' (Norm.mk [] (by decide) (by decide) (by decide) ⟨.d _, .d _, .eq (by simp [hg9]), trivial⟩ trivial)
    by_cases hc10 : ((!r8) || (decide ((x7.Acts.length : Int) > 32))) = true
    · replace h := iteT hc10 h
      refine NWp.condT (t := ((!r8) || (decide ((x7.Acts.length : Int) > 32)))) rfl hc10 ?_
      refine NWp.opsJ ⟨tab [(2, .d (.bool false))], stab [], 0⟩ ?_ ?_
      · refine step (v := .d (.bool false)) rfl ?_
        exact RunOps.nil' (Norm.mk [] (by decide) (by decide) (by decide) ⟨.d _, trivial⟩ trivial)
      obtain ⟨r11, kr11, hr⟩ := mapE (o := some false) (g := Br.ret) h
      subst hr
      have h := kr11
      have hh := Option.some.inj h
      subst hh
      refine NWp.ret ?_
      refine And.intro (fun hn => nomatch hn) ?_
      intro hq
      have hq := hq.symm
      subst hq
      show FQ _ _ _ _
      exact FQ.mk1 (.inr rfl) (res_t (v := .d (.bool false)) rfl rfl) (RV.d trivial)
    · replace h := iteF hc10 h
      refine NWp.condF (t := ((!r8) || (decide ((x7.Acts.length : Int) > 32)))) rfl hc10 ?_
      refine NWp.skip ?_
      refine NWp.opsJ ⟨tab [(0, .d (eL (some 2) eapi_Row a0)), (3, .d (.int .i64 i1)), (4, .d (.int .i64 0))], stab [], 0⟩ ?_ ?_
      · refine step (v := .d (.int .i64 0)) rfl ?_
        exact RunOps.nil' (Norm.mk [] (by decide) (by decide) (by decide) ⟨.d _, .d _, .d _, trivial⟩ trivial)
      obtain ⟨q20, hl, h⟩ := bindE h
      refine NWp.block ?_
      refine loop_forR (cntU (x7.Acts.length : Int)) (fun (i11 : Int) (qq : Unit) => ⟨tab [(0, .d (eL (some 2) eapi_Row a0)), (3, .d (.int .i64 i1)), (4, .d (.int .i64 i11))], stab [], 0⟩) 2 (fun (qq : Unit) => ⟨tab [(0, .d (eL (some 2) eapi_Row a0)), (3, .d (.int .i64 i1))], stab [], 0⟩) Low low_step (r := xr6) hl (by unfold Low; omega) ?_ ?_ ?_ ?_
      · rintro i11 ⟨⟩ xr16 hinv14 hgo13 h
        show NWp _ _ _ _ _ ⟨tab [(0, .d (eL (some 2) eapi_Row a0)), (3, .d (.int .i64 i1)), (4, .d (.int .i64 i11))], stab [], 0⟩
        have hc15 : decide (i11 < (x7.Acts.length : Int)) = true := decide_eq_true hgo13
        refine NWp.seq ?_
        refine NWp.opsJ ⟨tab [(0, .d (eL (some 2) eapi_Row a0)), (3, .d (.int .i64 i1)), (4, .d (.int .i64 i11)), (33, .d (.int .i64 (x7.Acts.length : Int))), (34, .d (.bool (decide (i11 < (x7.Acts.length : Int)))))], stab [], 0⟩ ?_ ?_
        · refine step (v := .d (.int .i64 i11)) rfl ?_
          refine step (v := .d (eL (some 2) eapi_Row a0)) rfl ?_
          refine step (v := .d (.int .i64 i1)) rfl ?_
          refine step (v := .d (.cptr (some 2) (eapi_Row x7) 0)) (st_iaddr (xs := a0) (e := eapi_Row) hx7 rfl rfl) ?_
          refine step (v := .d (.cptr (some 2) (eapi_Row x7) 1)) rfl ?_
          refine step (v := .d (eL none (eL (some 2) eapi_Pair) x7.Acts)) rfl ?_
          refine step (v := .d (.int .i64 (x7.Acts.length : Int))) (st_len (xs := x7.Acts) (e := (eL (some 2) eapi_Pair)) rfl) ?_
          refine step (v := .d (.bool (decide (i11 < (x7.Acts.length : Int))))) rfl ?_
          exact RunOps.nil' (Norm.mk [] (by decide) (by decide) (by decide) ⟨.d _, .d _, .d _, .d _, .d _, trivial⟩ trivial)
        refine NWp.rng 33 rfl fun hB12 => ?_
        refine NWp.condT (t := decide (i11 < (x7.Acts.length : Int))) rfl hc15 ?_
        refine NWp.skip ?_
        refine NWp.seq ?_
        refine NWp.block ?_
        obtain ⟨x17, hx17, h⟩ := bindE h
        obtain ⟨r18, hr18, h⟩ := bindE h
        refine NWp.opsJ ⟨tab [(0, .d (eL (some 2) eapi_Row a0)), (3, .d (.int .i64 i1)), (4, .d (.int .i64 i11)), (46, .d (.bool (!r18)))], stab [], 0⟩ ?_ ?_
        · refine step (v := .d (eL (some 2) eapi_Row a0)) rfl ?_
          refine step (v := .d (.int .i64 i1)) rfl ?_
          refine step (v := .d (.cptr (some 2) (eapi_Row x7) 0)) (st_iaddr (xs := a0) (e := eapi_Row) hx7 rfl rfl) ?_
          refine step (v := .d (.cptr (some 2) (eapi_Row x7) 1)) rfl ?_
          refine step (v := .d (eL none (eL (some 2) eapi_Pair) x7.Acts)) rfl ?_
          refine step (v := .d (.int .i64 i11)) rfl ?_
          refine step (v := .d (.cptr none (eL (some 2) eapi_Pair x17) 0)) (st_iaddr (xs := x7.Acts) (e := (eL (some 2) eapi_Pair)) hx17 rfl rfl) ?_
          refine step (v := .d (eL (some 2) eapi_Pair x17)) rfl ?_
          refine stepC (r := .bool r18) (ArgsOk.dt ArgsOk.nil') (c_ref08_Rising hr18) ?_
          refine step (v := .d (.bool (!r18))) rfl ?_
          exact RunOps.nil' (Norm.mk [] (by decide) (by decide) (by decide) ⟨.d _, .d _, .d _, .d _, trivial⟩ trivial)
        by_cases hc19 : (!r18) = true
        · replace h := iteT hc19 h
          refine NWp.condT (t := (!r18)) rfl hc19 ?_
          refine NWp.opsJ ⟨tab [(2, .d (.bool false))], stab [], 0⟩ ?_ ?_
          · refine step (v := .d (.bool false)) rfl ?_
            exact RunOps.nil' (Norm.mk [] (by decide) (by decide) (by decide) ⟨.d _, trivial⟩ trivial)
          obtain ⟨r20, kr20, hr⟩ := mapE (o := some (Br.ret false)) (g := Br.ret) h
          subst hr
          have h := kr20
          obtain ⟨r21, kr21, hr⟩ := mapE (o := some false) (g := Br.ret) h
          subst hr
          have h := kr21
          have hh := Option.some.inj h
          subst hh
          refine NWp.ret ?_
          refine And.intro (fun hn => nomatch hn) ?_
          intro hq
          have hq := hq.symm
          subst hq
          refine And.intro (fun hn => nomatch hn) ?_
          intro hq
          have hq := hq.symm
          subst hq
          show FQ _ _ _ _
          exact FQ.mk1 (.inr rfl) (res_t (v := .d (.bool false)) rfl rfl) (RV.d trivial)
        · replace h := iteF hc19 h
          refine NWp.condF (t := (!r18)) rfl hc19 ?_
          refine NWp.skip ?_
          have hh := Option.some.inj h
          subst hh
          refine NWp.opsE ⟨tab [(0, .d (eL (some 2) eapi_Row a0)), (3, .d (.int .i64 i1)), (4, .d (.int .i64 (i11 + 1)))], stab [], 0⟩ ?_ ?_
          · refine step (v := .d (.int .i64 i11)) rfl ?_
            refine step (v := .d (.int .i64 (i11 + 1))) (st_inc (inc_ok hinv14 hgo13 hB12) rfl rfl) ?_
            refine step (v := .d (.int .i64 (i11 + 1))) rfl ?_
            exact RunOps.nil' (Norm.mk [] (by decide) (by decide) (by decide) ⟨.d _, .d _, .d _, trivial⟩ trivial)
          exact And.intro rfl rfl
      · rintro i11 ⟨⟩ hinv14 hgo13
        show NWp _ _ _ _ _ ⟨tab [(0, .d (eL (some 2) eapi_Row a0)), (3, .d (.int .i64 i1)), (4, .d (.int .i64 i11))], stab [], 0⟩
        have hc15 : ¬ (decide (i11 < (x7.Acts.length : Int)) = true) := fun hq => hgo13 (of_decide_eq_true hq)
        refine NWp.seq ?_
        refine NWp.opsJ ⟨tab [(0, .d (eL (some 2) eapi_Row a0)), (3, .d (.int .i64 i1)), (4, .d (.int .i64 i11)), (34, .d (.bool (decide (i11 < (x7.Acts.length : Int)))))], stab [], 0⟩ ?_ ?_
        · refine step (v := .d (.int .i64 i11)) rfl ?_
          refine step (v := .d (eL (some 2) eapi_Row a0)) rfl ?_
          refine step (v := .d (.int .i64 i1)) rfl ?_
          refine step (v := .d (.cptr (some 2) (eapi_Row x7) 0)) (st_iaddr (xs := a0) (e := eapi_Row) hx7 rfl rfl) ?_
          refine step (v := .d (.cptr (some 2) (eapi_Row x7) 1)) rfl ?_
          refine step (v := .d (eL none (eL (some 2) eapi_Pair) x7.Acts)) rfl ?_
          refine step (v := .d (.int .i64 (x7.Acts.length : Int))) (st_len (xs := x7.Acts) (e := (eL (some 2) eapi_Pair)) rfl) ?_
          refine step (v := .d (.bool (decide (i11 < (x7.Acts.length : Int))))) rfl ?_
          exact RunOps.nil' (Norm.mk [] (by decide) (by decide) (by decide) ⟨.d _, .d _, .d _, .d _, trivial⟩ trivial)
        refine NWp.condF (t := decide (i11 < (x7.Acts.length : Int))) rfl hc15 ?_
        refine NWp.norm (s0 := ⟨tab [(0, .d (eL (some 2) eapi_Row a0)), (3, .d (.int .i64 i1))], stab [], 0⟩) (Norm.mk [] (by decide) (by decide) (by decide) ⟨.d _, .d _, trivial⟩ trivial) ?_
        refine NWp.exit ?_
        exact And.intro rfl rfl
      · intro r' hq
        subst hq
        exact Option.some.inj h
      rintro ⟨⟩ rfl
      have hh := Option.some.inj h
      subst hh
      refine NWp.opsE ⟨tab [(0, .d (eL (some 2) eapi_Row a0)), (3, .d (.int .i64 (i1 + 1)))], stab [], 0⟩ ?_ ?_
      · refine step (v := .d (.int .i64 i1)) rfl ?_
        refine step (v := .d (.int .i64 (i1 + 1))) (st_inc (inc_ok hinv4 hgo3 hB2) rfl rfl) ?_
        refine step (v := .d (.int .i64 (i1 + 1))) rfl ?_
        exact RunOps.nil' (Norm.mk [] (by decide) (by decide) (by decide) ⟨.d _, .d _, trivial⟩ trivial)
      exact And.intro rfl rfl
  · rintro i1 ⟨⟩ hinv4 hgo3
    show NWp _ _ _ _ _ ⟨tab [(0, .d (eL (some 2) eapi_Row a0)), (3, .d (.int .i64 i1))], stab [], 0⟩
    have hc5 : ¬ (decide (i1 < (a0.length : Int)) = true) := fun hq => hgo3 (of_decide_eq_true hq)
    refine NWp.seq ?_
    refine NWp.opsJ ⟨tab [(0, .d (eL (some 2) eapi_Row a0)), (3, .d (.int .i64 i1)), (8, .d (.bool (decide (i1 < (a0.length : Int)))))], stab [], 0⟩ ?_ ?_
    · refine step (v := .d (.int .i64 i1)) rfl ?_
      refine step (v := .d (eL (some 2) eapi_Row a0)) rfl ?_
      refine step (v := .d (.int .i64 (a0.length : Int))) (st_len (xs := a0) (e := eapi_Row) rfl) ?_
      refine step (v := .d (.bool (decide (i1 < (a0.length : Int))))) rfl ?_
      exact RunOps.nil' (Norm.mk [] (by decide) (by decide) (by decide) ⟨.d _, .d _, .d _, trivial⟩ trivial)
    refine NWp.condF (t := decide (i1 < (a0.length : Int))) rfl hc5 ?_
    refine NWp.norm (s0 := ⟨tab [(0, .d (eL (some 2) eapi_Row a0))], stab [], 0⟩) (Norm.mk [] (by decide) (by decide) (by decide) ⟨.d _, trivial⟩ trivial) ?_
    refine NWp.exit ?_
    exact And.intro rfl rfl
  · intro r' hq
    subst hq
    exact Option.some.inj h
  rintro ⟨⟩ rfl
  refine NWp.opsJ ⟨tab [(2, .d (.bool (decide ((a0.length : Int) ≤ 1000))))], stab [], 0⟩ ?_ ?_
  · refine step (v := .d (eL (some 2) eapi_Row a0)) rfl ?_
    refine step (v := .d (.int .i64 (a0.length : Int))) (st_len (xs := a0) (e := eapi_Row) rfl) ?_
    refine step (v := .d (.bool (decide ((a0.length : Int) ≤ 1000)))) rfl ?_
    refine step (v := .d (.bool (decide ((a0.length : Int) ≤ 1000)))) rfl ?_
    exact RunOps.nil' (Norm.mk [] (by decide) (by decide) (by decide) ⟨.d _, trivial⟩ trivial)
  have hh := Option.some.inj h
  subst hh
  refine NWp.ret ?_
  show FQ _ _ _ _
  exact FQ.mk1 (.inr rfl) (res_t (v := .d (.bool (decide ((a0.length : Int) ≤ 1000)))) rfl rfl) (RV.d trivial)

theorem c_ref09_has {a0 : (List api_Pair)} {a1 : api_Pair} {r : Bool} (h : ref09_has a0 a1 = some r) : PCall Try.prog 67 [eL (some 2) eapi_Pair a0, eapi_Pair a1] (.bool r) := by
  refine PCall.introN ok67 (show 2 ≤ 18 by decide) ?_
  refine NWp.norm (s0 := ⟨tab [(0, .d (eL (some 2) eapi_Pair a0)), (1, .d (eapi_Pair a1))], stab [], 0⟩) (Norm.mk [] (by decide) (by decide) (by decide) ⟨.d _, .d _, trivial⟩ trivial) ?_
  refine NWp.opsJ ⟨tab [(0, .d (eL (some 2) eapi_Pair a0)), (3, .d (.cptr (some 2) (eapi_Pair a1) 0))], stab [], 0⟩ ?_ ?_
  · refine step (v := .d (.cptr (some 2) (eapi_Pair a1) 0)) rfl ?_
    refine step (v := .d (.bool false)) rfl ?_
    exact RunOps.nil' (Norm.mk [] (by decide) (by decide) (by decide) ⟨.d _, .d _, trivial⟩ trivial)
  refine NWp.seq ?_
  refine NWp.opsJ ⟨tab [(0, .d (eL (some 2) eapi_Pair a0)), (3, .d (.cptr (some 2) (eapi_Pair a1) 0)), (5, .d (.int .i64 0))], stab [], 0⟩ ?_ ?_
  · refine step (v := .d (.int .i64 0)) rfl ?_
    exact RunOps.nil' (Norm.mk [] (by decide) (by decide) (by decide) ⟨.d _, .d _, .d _, trivial⟩ trivial)
  obtain ⟨q9, hl, h⟩ := bindE h
  refine NWp.block ?_
  refine loop_forR (cntU (a0.length : Int)) (fun (i1 : Int) (qq : Unit) => ⟨tab [(0, .d (eL (some 2) eapi_Pair a0)), (3, .d (.cptr (some 2) (eapi_Pair a1) 0)), (5, .d (.int .i64 i1))], stab [], 0⟩) 0 (fun (qq : Unit) => ⟨tab [], stab [], 0⟩) Low low_step (r := r) hl (by unfold Low; omega) ?_ ?_ ?_ ?_
  · rintro i1 ⟨⟩ xr6 hinv4 hgo3 h
    show NWp _ _ _ _ _ ⟨tab [(0, .d (eL (some 2) eapi_Pair a0)), (3, .d (.cptr (some 2) (eapi_Pair a1) 0)), (5, .d (.int .i64 i1))], stab [], 0⟩
    have hc5 : decide (i1 < (a0.length : Int)) = true := decide_eq_true hgo3
    refine NWp.seq ?_
    refine NWp.opsJ ⟨tab [(0, .d (eL (some 2) eapi_Pair a0)), (3, .d (.cptr (some 2) (eapi_Pair a1) 0)), (5, .d (.int .i64 i1)), (8, .d (.int .i64 (a0.length : Int))), (9, .d (.bool (decide (i1 < (a0.length : Int)))))], stab [], 0⟩ ?_ ?_
    · refine step (v := .d (.int .i64 i1)) rfl ?_
      refine step (v := .d (eL (some 2) eapi_Pair a0)) rfl ?_
      refine step (v := .d (.int .i64 (a0.length : Int))) (st_len (xs := a0) (e := eapi_Pair) rfl) ?_
      refine step (v := .d (.bool (decide (i1 < (a0.length : Int))))) rfl ?_
      exact RunOps.nil' (Norm.mk [] (by decide) (by decide) (by decide) ⟨.d _, .d _, .d _, .d _, .d _, trivial⟩ trivial)
    refine NWp.rng 8 rfl fun hB2 => ?_
    refine NWp.condT (t := decide (i1 < (a0.length : Int))) rfl hc5 ?_
    refine NWp.skip ?_
    refine NWp.seq ?_
    refine NWp.block ?_
    obtain ⟨x7, hx7, h⟩ := bindE h
    refine NWp.opsJ ⟨tab [(0, .d (eL (some 2) eapi_Pair a0)), (3, .d (.cptr (some 2) (eapi_Pair a1) 0)), (5, .d (.int .i64 i1)), (17, .d (.bool (x7 == a1)))], stab [], 0⟩ ?_ ?_
    · refine step (v := .d (eL (some 2) eapi_Pair a0)) rfl ?_
      refine step (v := .d (.int .i64 i1)) rfl ?_
      refine step (v := .d (.cptr (some 2) (eapi_Pair x7) 0)) (st_iaddr (xs := a0) (e := eapi_Pair) hx7 rfl rfl) ?_
      refine step (v := .d (eapi_Pair x7)) rfl ?_
      refine step (v := .d (eapi_Pair a1)) rfl ?_
      refine step (v := .d (.bool (x7 == a1))) (st_eqS (neg := false) rfl rfl (eqS_api_Pair x7 a1)) ?_
      exact RunOps.nil' (Norm.mk [] (by decide) (by decide) (by decide) ⟨.d _, .d _, .d _, .d _, trivial⟩ trivial)
    by_cases hc8 : (x7 == a1) = true
    · replace h := iteT hc8 h
      refine NWp.condT (t := (x7 == a1)) rfl hc8 ?_
      refine NWp.opsJ ⟨tab [(4, .d (.bool true))], stab [], 0⟩ ?_ ?_
      · refine step (v := .d (.bool true)) rfl ?_
        exact RunOps.nil' (Norm.mk [] (by decide) (by decide) (by decide) ⟨.d _, trivial⟩ trivial)
      obtain ⟨r9, kr9, hr⟩ := mapE (o := some true) (g := Br.ret) h
      subst hr
      have h := kr9
      have hh := Option.some.inj h
      subst hh
      refine NWp.ret ?_
      refine And.intro (fun hn => nomatch hn) ?_
      intro hq
      have hq := hq.symm
      subst hq
      show FQ _ _ _ _
      exact FQ.mk1 (.inr rfl) (res_t (v := .d (.bool true)) rfl rfl) (RV.d trivial)
    · replace h := iteF hc8 h
      refine NWp.condF (t := (x7 == a1)) rfl hc8 ?_
      refine NWp.skip ?_
      have hh := Option.some.inj h
      subst hh
      refine NWp.opsE ⟨tab [(0, .d (eL (some 2) eapi_Pair a0)), (3, .d (.cptr (some 2) (eapi_Pair a1) 0)), (5, .d (.int .i64 (i1 + 1)))], stab [], 0⟩ ?_ ?_
      · refine step (v := .d (.int .i64 i1)) rfl ?_
        refine step (v := .d (.int .i64 (i1 + 1))) (st_inc (inc_ok hinv4 hgo3 hB2) rfl rfl) ?_
        refine step (v := .d (.int .i64 (i1 + 1))) rfl ?_
        exact RunOps.nil' (Norm.mk [] (by decide) (by decide) (by decide) ⟨.d _, .d _, .d _, trivial⟩ trivial)
      exact And.intro rfl rfl
  · rintro i1 ⟨⟩ hinv4 hgo3
    show NWp _ _ _ _ _ ⟨tab [(0, .d (eL (some 2) eapi_Pair a0)), (3, .d (.cptr (some 2) (eapi_Pair a1) 0)), (5, .d (.int .i64 i1))], stab [], 0⟩
    have hc5 : ¬ (decide (i1 < (a0.length : Int)) = true) := fun hq => hgo3 (of_decide_eq_true hq)
    refine NWp.seq ?_
    refine NWp.opsJ ⟨tab [(0, .d (eL (some 2) eapi_Pair a0)), (3, .d (.cptr (some 2) (eapi_Pair a1) 0)), (5, .d (.int .i64 i1)), (9, .d (.bool (decide (i1 < (a0.length : Int)))))], stab [], 0⟩ ?_ ?_
    · refine step (v := .d (.int .i64 i1)) rfl ?_
      refine step (v := .d (eL (some 2) eapi_Pair a0)) rfl ?_
      refine step (v := .d (.int .i64 (a0.length : Int))) (st_len (xs := a0) (e := eapi_Pair) rfl) ?_
      refine step (v := .d (.bool (decide (i1 < (a0.length : Int))))) rfl ?_
      exact RunOps.nil' (Norm.mk [] (by decide) (by decide) (by decide) ⟨.d _, .d _, .d _, .d _, trivial⟩ trivial)
    refine NWp.condF (t := decide (i1 < (a0.length : Int))) rfl hc5 ?_
    refine NWp.norm (s0 := ⟨tab [], stab [], 0⟩) (Norm.mk [] (by decide) (by decide) (by decide) trivial trivial) ?_
    refine NWp.exit ?_
    exact And.intro rfl rfl
  · intro r' hq
    subst hq
    exact Option.some.inj h
  rintro ⟨⟩ rfl
  refine NWp.opsJ ⟨tab [(4, .d (.bool false))], stab [], 0⟩ ?_ ?_
  · refine step (v := .d (.bool false)) rfl ?_
    exact RunOps.nil' (Norm.mk [] (by decide) (by decide) (by decide) ⟨.d _, trivial⟩ trivial)
  have hh := Option.some.inj h
  subst hh
  refine NWp.ret ?_
  show FQ _ _ _ _
  exact FQ.mk1 (.inr rfl) (res_t (v := .d (.bool false)) rfl rfl) (RV.d trivial)

theorem c_ref09_Covers {a0 : api_Row} {a1 : api_Row} {r : Bool} (h : ref09_Covers a0 a1 = some r) : PCall Try.prog 53 [eapi_Row a0, eapi_Row a1] (.bool r) := by
  refine PCall.introN ok53 (show 2 ≤ 22 by decide) ?_
  refine NWp.norm (s0 := ⟨tab [(0, .d (eapi_Row a0)), (1, .d (eapi_Row a1))], stab [], 0⟩) (Norm.mk [] (by decide) (by decide) (by decide) ⟨.d _, .d _, trivial⟩ trivial) ?_
  refine NWp.opsJ ⟨tab [(2, .d (.cptr (some 2) (eapi_Row a0) 0)), (3, .d (.cptr (some 2) (eapi_Row a1) 0))], stab [], 0⟩ ?_ ?_
  · refine step (v := .d (.cptr (some 2) (eapi_Row a0) 0)) rfl ?_
    refine step (v := .d (.cptr (some 2) (eapi_Row a1) 0)) rfl ?_
    refine step (v := .d (.bool false)) rfl ?_
    exact RunOps.nil' (Norm.mk [] (by decide) (by decide) (by decide) ⟨.d _, .d _, trivial⟩ trivial)
  refine NWp.seq ?_
  refine NWp.opsJ ⟨tab [(2, .d (.cptr (some 2) (eapi_Row a0) 0)), (3, .d (.cptr (some 2) (eapi_Row a1) 0)), (5, .d (.int .i64 0))], stab [], 0⟩ ?_ ?_
  · refine step (v := .d (.int .i64 0)) rfl ?_
    exact RunOps.nil' (Norm.mk [] (by decide) (by decide) (by decide) ⟨.d _, .d _, .d _, trivial⟩ trivial)
  obtain ⟨q10, hl, h⟩ := bindE h
  refine NWp.block ?_
  refine loop_forR (cntU (a0.Match.length : Int)) (fun (i1 : Int) (qq : Unit) => ⟨tab [(2, .d (.cptr (some 2) (eapi_Row a0) 0)), (3, .d (.cptr (some 2) (eapi_Row a1) 0)), (5, .d (.int .i64 i1))], stab [], 0⟩) 0 (fun (qq : Unit) => ⟨tab [], stab [], 0⟩) Low low_step (r := r) hl (by unfold Low; omega) ?_ ?_ ?_ ?_
  · rintro i1 ⟨⟩ xr6 hinv4 hgo3 h
    show NWp _ _ _ _ _ ⟨tab [(2, .d (.cptr (some 2) (eapi_Row a0) 0)), (3, .d (.cptr (some 2) (eapi_Row a1) 0)), (5, .d (.int .i64 i1))], stab [], 0⟩
    have hc5 : decide (i1 < (a0.Match.length : Int)) = true := decide_eq_true hgo3
    refine NWp.seq ?_
    refine NWp.opsJ ⟨tab [(2, .d (.cptr (some 2) (eapi_Row a0) 0)), (3, .d (.cptr (some 2) (eapi_Row a1) 0)), (5, .d (.int .i64 i1)), (9, .d (.int .i64 (a0.Match.length : Int))), (10, .d (.bool (decide (i1 < (a0.Match.length : Int)))))], stab [], 0⟩ ?_ ?_
    · refine step (v := .d (.int .i64 i1)) rfl ?_
      refine step (v := .d (.cptr (some 2) (eapi_Row a0) 0)) rfl ?_
      refine step (v := .d (eL (some 2) eapi_Pair a0.Match)) rfl ?_
      refine step (v := .d (.int .i64 (a0.Match.length : Int))) (st_len (xs := a0.Match) (e := eapi_Pair) rfl) ?_
      refine step (v := .d (.bool (decide (i1 < (a0.Match.length : Int))))) rfl ?_
      exact RunOps.nil' (Norm.mk [] (by decide) (by decide) (by decide) ⟨.d _, .d _, .d _, .d _, .d _, trivial⟩ trivial)
    refine NWp.rng 9 rfl fun hB2 => ?_
    refine NWp.condT (t := decide (i1 < (a0.Match.length : Int))) rfl hc5 ?_
    refine NWp.skip ?_
    refine NWp.seq ?_
    refine NWp.block ?_
    obtain ⟨x7, hx7, h⟩ := bindE h
    obtain ⟨r8, hr8, h⟩ := bindE h
    refine NWp.opsJ ⟨tab [(2, .d (.cptr (some 2) (eapi_Row a0) 0)), (3, .d (.cptr (some 2) (eapi_Row a1) 0)), (5, .d (.int .i64 i1)), (21, .d (.bool (!r8)))], stab [], 0⟩ ?_ ?_
    · refine step (v := .d (.cptr (some 2) (eapi_Row a1) 0)) rfl ?_
      refine step (v := .d (eL (some 2) eapi_Pair a1.Match)) rfl ?_
      refine step (v := .d (.cptr (some 2) (eapi_Row a0) 0)) rfl ?_
      refine step (v := .d (eL (some 2) eapi_Pair a0.Match)) rfl ?_
      refine step (v := .d (.int .i64 i1)) rfl ?_
      refine step (v := .d (.cptr (some 2) (eapi_Pair x7) 0)) (st_iaddr (xs := a0.Match) (e := eapi_Pair) hx7 rfl rfl) ?_
      refine step (v := .d (eapi_Pair x7)) rfl ?_
      refine stepC (r := .bool r8) (ArgsOk.dt (ArgsOk.dt ArgsOk.nil')) (c_ref09_has hr8) ?_
      refine step (v := .d (.bool (!r8))) rfl ?_
      exact RunOps.nil' (Norm.mk [] (by decide) (by decide) (by decide) ⟨.d _, .d _, .d _, .d _, trivial⟩ trivial)
    by_cases hc9 : (!r8) = true
    · replace h := iteT hc9 h
      refine NWp.condT (t := (!r8)) rfl hc9 ?_
      refine NWp.opsJ ⟨tab [(4, .d (.bool false))], stab [], 0⟩ ?_ ?_
      · refine step (v := .d (.bool false)) rfl ?_
        exact RunOps.nil' (Norm.mk [] (by decide) (by decide) (by decide) ⟨.d _, trivial⟩ trivial)
      obtain ⟨r10, kr10, hr⟩ := mapE (o := some false) (g := Br.ret) h
      subst hr
      have h := kr10
      have hh := Option.some.inj h
      subst hh
      refine NWp.ret ?_
      refine And.intro (fun hn => nomatch hn) ?_
      intro hq
      have hq := hq.symm
      subst hq
      show FQ _ _ _ _
      exact FQ.mk1 (.inr rfl) (res_t (v := .d (.bool false)) rfl rfl) (RV.d trivial)
    · replace h := iteF hc9 h
      refine NWp.condF (t := (!r8)) rfl hc9 ?_
      refine NWp.skip ?_
      have hh := Option.some.inj h
      subst hh
      refine NWp.opsE ⟨tab [(2, .d (.cptr (some 2) (eapi_Row a0) 0)), (3, .d (.cptr (some 2) (eapi_Row a1) 0)), (5, .d (.int .i64 (i1 + 1)))], stab [], 0⟩ ?_ ?_
      · refine step (v := .d (.int .i64 i1)) rfl ?_
        refine step (v := .d (.int .i64 (i1 + 1))) (st_inc (inc_ok hinv4 hgo3 hB2) rfl rfl) ?_
        refine step (v := .d (.int .i64 (i1 + 1))) rfl ?_
        exact RunOps.nil' (Norm.mk [] (by decide) (by decide) (by decide) ⟨.d _, .d _, .d _, trivial⟩ trivial)
      exact And.intro rfl rfl
  · rintro i1 ⟨⟩ hinv4 hgo3
    show NWp _ _ _ _ _ ⟨tab [(2, .d (.cptr (some 2) (eapi_Row a0) 0)), (3, .d (.cptr (some 2) (eapi_Row a1) 0)), (5, .d (.int .i64 i1))], stab [], 0⟩
    have hc5 : ¬ (decide (i1 < (a0.Match.length : Int)) = true) := fun hq => hgo3 (of_decide_eq_true hq)
    refine NWp.seq ?_
    refine NWp.opsJ ⟨tab [(2, .d (.cptr (some 2) (eapi_Row a0) 0)), (3, .d (.cptr (some 2) (eapi_Row a1) 0)), (5, .d (.int .i64 i1)), (10, .d (.bool (decide (i1 < (a0.Match.length : Int)))))], stab [], 0⟩ ?_ ?_
    · refine step (v := .d (.int .i64 i1)) rfl ?_
      refine step (v := .d (.cptr (some 2) (eapi_Row a0) 0)) rfl ?_
      refine step (v := .d (eL (some 2) eapi_Pair a0.Match)) rfl ?_
      refine step (v := .d (.int .i64 (a0.Match.length : Int))) (st_len (xs := a0.Match) (e := eapi_Pair) rfl) ?_
      refine step (v := .d (.bool (decide (i1 < (a0.Match.length : Int))))) rfl ?_
      exact RunOps.nil' (Norm.mk [] (by decide) (by decide) (by decide) ⟨.d _, .d _, .d _, .d _, trivial⟩ trivial)
    refine NWp.condF (t := decide (i1 < (a0.Match.length : Int))) rfl hc5 ?_
    refine NWp.norm (s0 := ⟨tab [], stab [], 0⟩) (Norm.mk [] (by decide) (by decide) (by decide) trivial trivial) ?_
    refine NWp.exit ?_
    exact And.intro rfl rfl
  · intro r' hq
    subst hq
    exact Option.some.inj h
  rintro ⟨⟩ rfl
  refine NWp.opsJ ⟨tab [(4, .d (.bool true))], stab [], 0⟩ ?_ ?_
  · refine step (v := .d (.bool true)) rfl ?_
    exact RunOps.nil' (Norm.mk [] (by decide) (by decide) (by decide) ⟨.d _, trivial⟩ trivial)
  have hh := Option.some.inj h
  subst hh
  refine NWp.ret ?_
  show FQ _ _ _ _
  exact FQ.mk1 (.inr rfl) (res_t (v := .d (.bool true)) rfl rfl) (RV.d trivial)

theorem c_ref05_SamePairs {a0 : (List api_Pair)} {a1 : (List api_Pair)} {r : Bool} (h : ref05_SamePairs a0 a1 = some r) : PCall Try.prog 58 [eL (some 2) eapi_Pair a0, eL (some 2) eapi_Pair a1] (.bool r) := by
  refine PCall.introN ok58 (show 2 ≤ 26 by decide) ?_
  refine NWp.norm (s0 := ⟨tab [(0, .d (eL (some 2) eapi_Pair a0)), (1, .d (eL (some 2) eapi_Pair a1))], stab [], 0⟩) (Norm.mk [] (by decide) (by decide) (by decide) ⟨.d _, .d _, trivial⟩ trivial) ?_
  refine NWp.opsJ ⟨tab [(0, .d (eL (some 2) eapi_Pair a0)), (1, .d (eL (some 2) eapi_Pair a1))], stab [], 0⟩ ?_ ?_
  · refine step (v := .d (.bool false)) rfl ?_
    exact RunOps.nil' (Norm.mk [] (by decide) (by decide) (by decide) ⟨.d _, .d _, trivial⟩ trivial)
  refine NWp.seq ?_
  refine NWp.opsJ ⟨tab [(0, .d (eL (some 2) eapi_Pair a0)), (1, .d (eL (some 2) eapi_Pair a1)), (10, .d (.bool ((a0.length : Int) != (a1.length : Int))))], stab [], 0⟩ ?_ ?_
  · refine step (v := .d (eL (some 2) eapi_Pair a0)) rfl ?_
    refine step (v := .d (.int .i64 (a0.length : Int))) (st_len (xs := a0) (e := eapi_Pair) rfl) ?_
    refine step (v := .d (eL (some 2) eapi_Pair a1)) rfl ?_
    refine step (v := .d (.int .i64 (a1.length : Int))) (st_len (xs := a1) (e := eapi_Pair) rfl) ?_
    refine step (v := .d (.bool ((a0.length : Int) != (a1.length : Int)))) rfl ?_
    exact RunOps.nil' (Norm.mk [] (by decide) (by decide) (by decide) ⟨.d _, .d _, .d _, trivial⟩ trivial)
  by_cases hc1 : ((a0.length : Int) != (a1.length : Int)) = true
  · replace h := iteT hc1 h
    refine NWp.condT (t := ((a0.length : Int) != (a1.length : Int))) rfl hc1 ?_
    refine NWp.opsJ ⟨tab [(4, .d (.bool false))], stab [], 0⟩ ?_ ?_
    · refine step (v := .d (.bool false)) rfl ?_
      exact RunOps.nil' (Norm.mk [] (by decide) (by decide) (by decide) ⟨.d _, trivial⟩ trivial)
    have hh := Option.some.inj h
    subst hh
    refine NWp.ret ?_
    show FQ _ _ _ _
    exact FQ.mk1 (.inr rfl) (res_t (v := .d (.bool false)) rfl rfl) (RV.d trivial)
  · replace h := iteF hc1 h
    refine NWp.condF (t := ((a0.length : Int) != (a1.length : Int))) rfl hc1 ?_
    refine NWp.skip ?_
    refine NWp.seq ?_
    refine NWp.opsJ ⟨tab [(0, .d (eL (some 2) eapi_Pair a0)), (1, .d (eL (some 2) eapi_Pair a1)), (5, .d (.int .i64 0))], stab [], 0⟩ ?_ ?_
    · refine step (v := .d (.int .i64 0)) rfl ?_
      exact RunOps.nil' (Norm.mk [] (by decide) (by decide) (by decide) ⟨.d _, .d _, .d _, trivial⟩ trivial)
    obtain ⟨q11, hl, h⟩ := bindE h
    refine NWp.block ?_
    refine loop_forR (cntU (a0.length : Int)) (fun (i2 : Int) (qq : Unit) => ⟨tab [(0, .d (eL (some 2) eapi_Pair a0)), (1, .d (eL (some 2) eapi_Pair a1)), (5, .d (.int .i64 i2))], stab [], 0⟩) 0 (fun (qq : Unit) => ⟨tab [], stab [], 0⟩) Low low_step (r := r) hl (by unfold Low; omega) ?_ ?_ ?_ ?_
    · rintro i2 ⟨⟩ xr7 hinv5 hgo4 h
      show NWp _ _ _ _ _ ⟨tab [(0, .d (eL (some 2) eapi_Pair a0)), (1, .d (eL (some 2) eapi_Pair a1)), (5, .d (.int .i64 i2))], stab [], 0⟩
      have hc6 : decide (i2 < (a0.length : Int)) = true := decide_eq_true hgo4
      refine NWp.seq ?_
      refine NWp.opsJ ⟨tab [(0, .d (eL (some 2) eapi_Pair a0)), (1, .d (eL (some 2) eapi_Pair a1)), (5, .d (.int .i64 i2)), (13, .d (.int .i64 (a0.length : Int))), (14, .d (.bool (decide (i2 < (a0.length : Int)))))], stab [], 0⟩ ?_ ?_
      · refine step (v := .d (.int .i64 i2)) rfl ?_
        refine step (v := .d (eL (some 2) eapi_Pair a0)) rfl ?_
        refine step (v := .d (.int .i64 (a0.length : Int))) (st_len (xs := a0) (e := eapi_Pair) rfl) ?_
        refine step (v := .d (.bool (decide (i2 < (a0.length : Int))))) rfl ?_
        exact RunOps.nil' (Norm.mk [] (by decide) (by decide) (by decide) ⟨.d _, .d _, .d _, .d _, .d _, trivial⟩ trivial)
      refine NWp.rng 13 rfl fun hB3 => ?_
      refine NWp.condT (t := decide (i2 < (a0.length : Int))) rfl hc6 ?_
      refine NWp.skip ?_
      refine NWp.seq ?_
      refine NWp.block ?_
      obtain ⟨x8, hx8, h⟩ := bindE h
      obtain ⟨x9, hx9, h⟩ := bindE h
      refine NWp.opsJ ⟨tab [(0, .d (eL (some 2) eapi_Pair a0)), (1, .d (eL (some 2) eapi_Pair a1)), (5, .d (.int .i64 i2)), (25, .d (.bool (!(x8 == x9))))], stab [], 0⟩ ?_ ?_
      · refine step (v := .d (eL (some 2) eapi_Pair a0)) rfl ?_
        refine step (v := .d (.int .i64 i2)) rfl ?_
        refine step (v := .d (.cptr (some 2) (eapi_Pair x8) 0)) (st_iaddr (xs := a0) (e := eapi_Pair) hx8 rfl rfl) ?_
        refine step (v := .d (eapi_Pair x8)) rfl ?_
        refine step (v := .d (eL (some 2) eapi_Pair a1)) rfl ?_
        refine step (v := .d (.int .i64 i2)) rfl ?_
        refine step (v := .d (.cptr (some 2) (eapi_Pair x9) 0)) (st_iaddr (xs := a1) (e := eapi_Pair) hx9 rfl rfl) ?_
        refine step (v := .d (eapi_Pair x9)) rfl ?_
        refine step (v := .d (.bool (!(x8 == x9)))) (st_eqS (neg := true) rfl rfl (eqS_api_Pair x8 x9)) ?_
        exact RunOps.nil' (Norm.mk [] (by decide) (by decide) (by decide) ⟨.d _, .d _, .d _, .d _, trivial⟩ trivial)
      by_cases hc10 : (!(x8 == x9)) = true
      · replace h := iteT hc10 h
        refine NWp.condT (t := (!(x8 == x9))) rfl hc10 ?_
        refine NWp.opsJ ⟨tab [(4, .d (.bool false))], stab [], 0⟩ ?_ ?_
        · refine step (v := .d (.bool false)) rfl ?_
          exact RunOps.nil' (Norm.mk [] (by decide) (by decide) (by decide) ⟨.d _, trivial⟩ trivial)
        obtain ⟨r11, kr11, hr⟩ := mapE (o := some false) (g := Br.ret) h
        subst hr
        have h := kr11
        have hh := Option.some.inj h
        subst hh
        refine NWp.ret ?_
        refine And.intro (fun hn => nomatch hn) ?_
        intro hq
        have hq := hq.symm
        subst hq
        show FQ _ _ _ _
        exact FQ.mk1 (.inr rfl) (res_t (v := .d (.bool false)) rfl rfl) (RV.d trivial)
      · replace h := iteF hc10 h
        refine NWp.condF (t := (!(x8 == x9))) rfl hc10 ?_
        refine NWp.skip ?_
        have hh := Option.some.inj h
        subst hh
        refine NWp.opsE ⟨tab [(0, .d (eL (some 2) eapi_Pair a0)), (1, .d (eL (some 2) eapi_Pair a1)), (5, .d (.int .i64 (i2 + 1)))], stab [], 0⟩ ?_ ?_
        · refine step (v := .d (.int .i64 i2)) rfl ?_
          refine step (v := .d (.int .i64 (i2 + 1))) (st_inc (inc_ok hinv5 hgo4 hB3) rfl rfl) ?_
          refine step (v := .d (.int .i64 (i2 + 1))) rfl ?_
          exact RunOps.nil' (Norm.mk [] (by decide) (by decide) (by decide) ⟨.d _, .d _, .d _, trivial⟩ trivial)
        exact And.intro rfl rfl
    · rintro i2 ⟨⟩ hinv5 hgo4
      show NWp _ _ _ _ _ ⟨tab [(0, .d (eL (some 2) eapi_Pair a0)), (1, .d (eL (some 2) eapi_Pair a1)), (5, .d (.int .i64 i2))], stab [], 0⟩
      have hc6 : ¬ (decide (i2 < (a0.length : Int)) = true) := fun hq => hgo4 (of_decide_eq_true hq)
      refine NWp.seq ?_
      refine NWp.opsJ ⟨tab [(0, .d (eL (some 2) eapi_Pair a0)), (1, .d (eL (some 2) eapi_Pair a1)), (5, .d (.int .i64 i2)), (14, .d (.bool (decide (i2 < (a0.length : Int)))))], stab [], 0⟩ ?_ ?_
      · refine step (v := .d (.int .i64 i2)) rfl ?_
        refine step (v := .d (eL (some 2) eapi_Pair a0)) rfl ?_
        refine step (v := .d (.int .i64 (a0.length : Int))) (st_len (xs := a0) (e := eapi_Pair) rfl) ?_
        refine step (v := .d (.bool (decide (i2 < (a0.length : Int))))) rfl ?_
        exact RunOps.nil' (Norm.mk [] (by decide) (by decide) (by decide) ⟨.d _, .d _, .d _, .d _, trivial⟩ trivial)
      refine NWp.condF (t := decide (i2 < (a0.length : Int))) rfl hc6 ?_
      refine NWp.norm (s0 := ⟨tab [], stab [], 0⟩) (Norm.mk [] (by decide) (by decide) (by decide) trivial trivial) ?_
      refine NWp.exit ?_
      exact And.intro rfl rfl
    · intro r' hq
      subst hq
      exact Option.some.inj h
    rintro ⟨⟩ rfl
    refine NWp.opsJ ⟨tab [(4, .d (.bool true))], stab [], 0⟩ ?_ ?_
    · refine step (v := .d (.bool true)) rfl ?_
      exact RunOps.nil' (Norm.mk [] (by decide) (by decide) (by decide) ⟨.d _, trivial⟩ trivial)
    have hh := Option.some.inj h
    subst hh
    refine NWp.ret ?_
    show FQ _ _ _ _
    exact FQ.mk1 (.inr rfl) (res_t (v := .d (.bool true)) rfl rfl) (RV.d trivial)

theorem c_ref09_Same {a0 : (List api_Row)} {a1 : (List api_Row)} {r : Bool} (h : ref09_Same a0 a1 = some r) : PCall Try.prog 37 [eL (some 2) eapi_Row a0, eL (some 2) eapi_Row a1] (.bool r) := by
  refine PCall.introN ok37 (show 2 ≤ 73 by decide) ?_
  refine NWp.norm (s0 := ⟨tab [(0, .d (eL (some 2) eapi_Row a0)), (1, .d (eL (some 2) eapi_Row a1))], stab [], 0⟩) (Norm.mk [] (by decide) (by decide) (by decide) ⟨.d _, .d _, trivial⟩ trivial) ?_
  refine NWp.opsJ ⟨tab [(0, .d (eL (some 2) eapi_Row a0)), (1, .d (eL (some 2) eapi_Row a1))], stab [], 0⟩ ?_ ?_
  · refine step (v := .d (.bool false)) rfl ?_
    exact RunOps.nil' (Norm.mk [] (by decide) (by decide) (by decide) ⟨.d _, .d _, trivial⟩ trivial)
  refine NWp.seq ?_
  refine NWp.opsJ ⟨tab [(0, .d (eL (some 2) eapi_Row a0)), (1, .d (eL (some 2) eapi_Row a1)), (11, .d (.bool ((a0.length : Int) != (a1.length : Int))))], stab [], 0⟩ ?_ ?_
  · refine step (v := .d (eL (some 2) eapi_Row a0)) rfl ?_
    refine step (v := .d (.int .i64 (a0.length : Int))) (st_len (xs := a0) (e := eapi_Row) rfl) ?_
    refine step (v := .d (eL (some 2) eapi_Row a1)) rfl ?_
    refine step (v := .d (.int .i64 (a1.length : Int))) (st_len (xs := a1) (e := eapi_Row) rfl) ?_
    refine step (v := .d (.bool ((a0.length : Int) != (a1.length : Int)))) rfl ?_
    exact RunOps.nil' (Norm.mk [] (by decide) (by decide) (by decide) ⟨.d _, .d _, .d _, trivial⟩ trivial)
  by_cases hc1 : ((a0.length : Int) != (a1.length : Int)) = true
  · replace h := iteT hc1 h
    refine NWp.condT (t := ((a0.length : Int) != (a1.length : Int))) rfl hc1 ?_
    refine NWp.opsJ ⟨tab [(4, .d (.bool false))], stab [], 0⟩ ?_ ?_
    · refine step (v := .d (.bool false)) rfl ?_
      exact RunOps.nil' (Norm.mk [] (by decide) (by decide) (by decide) ⟨.d _, trivial⟩ trivial)
    have hh := Option.some.inj h
    subst hh
    refine NWp.ret ?_
    show FQ _ _ _ _
    exact FQ.mk1 (.inr rfl) (res_t (v := .d (.bool false)) rfl rfl) (RV.d trivial)
  · replace h := iteF hc1 h
    refine NWp.condF (t := ((a0.length : Int) != (a1.length : Int))) rfl hc1 ?_
    refine NWp.skip ?_
    refine NWp.seq ?_
    refine NWp.opsJ ⟨tab [(0, .d (eL (some 2) eapi_Row a0)), (1, .d (eL (some 2) eapi_Row a1)), (5, .d (.int .i64 0))], stab [], 0⟩ ?_ ?_
    · refine step (v := .d (.int .i64 0)) rfl ?_
      exact RunOps.nil' (Norm.mk [] (by decide) (by decide) (by decide) ⟨.d _, .d _, .d _, trivial⟩ trivial)
    obtain ⟨q24, hl, h⟩ := bindE h
    refine NWp.block ?_
    refine loop_forR (cntU (a0.length : Int)) (fun (i2 : Int) (qq : Unit) => ⟨tab [(0, .d (eL (some 2) eapi_Row a0)), (1, .d (eL (some 2) eapi_Row a1)), (5, .d (.int .i64 i2))], stab [], 0⟩) 0 (fun (qq : Unit) => ⟨tab [], stab [], 0⟩) Low low_step (r := r) hl (by unfold Low; omega) ?_ ?_ ?_ ?_
    · rintro i2 ⟨⟩ xr7 hinv5 hgo4 h
      show NWp _ _ _ _ _ ⟨tab [(0, .d (eL (some 2) eapi_Row a0)), (1, .d (eL (some 2) eapi_Row a1)), (5, .d (.int .i64 i2))], stab [], 0⟩
      have hc6 : decide (i2 < (a0.length : Int)) = true := decide_eq_true hgo4
      refine NWp.seq ?_
      refine NWp.opsJ ⟨tab [(0, .d (eL (some 2) eapi_Row a0)), (1, .d (eL (some 2) eapi_Row a1)), (5, .d (.int .i64 i2)), (14, .d (.int .i64 (a0.length : Int))), (15, .d (.bool (decide (i2 < (a0.length : Int)))))], stab [], 0⟩ ?_ ?_
      · refine step (v := .d (.int .i64 i2)) rfl ?_
        refine step (v := .d (eL (some 2) eapi_Row a0)) rfl ?_
        refine step (v := .d (.int .i64 (a0.length : Int))) (st_len (xs := a0) (e := eapi_Row) rfl) ?_
        refine step (v := .d (.bool (decide (i2 < (a0.length : Int))))) rfl ?_
        exact RunOps.nil' (Norm.mk [] (by decide) (by decide) (by decide) ⟨.d _, .d _, .d _, .d _, .d _, trivial⟩ trivial)
      refine NWp.rng 14 rfl fun hB3 => ?_
      refine NWp.condT (t := decide (i2 < (a0.length : Int))) rfl hc6 ?_
      refine NWp.skip ?_
      refine NWp.seq ?_
      refine NWp.block ?_
      refine NWp.seq ?_
      obtain ⟨x8, hx8, h⟩ := bindE h
      obtain ⟨x9, hx9, h⟩ := bindE h
      obtain ⟨r10, hr10, h⟩ := bindE h
      refine NWp.opsJ ⟨tab [(0, .d (eL (some 2) eapi_Row a0)), (1, .d (eL (some 2) eapi_Row a1)), (5, .d (.int .i64 i2)), (44, .d (.bool ((!r10) || ((x8.Acts.length : Int) != (x9.Acts.length : Int)))))], stab [], 0⟩ ?_ ?_
      · refine step (v := .d (eL (some 2) eapi_Row a0)) rfl ?_
        refine step (v := .d (.int .i64 i2)) rfl ?_
        refine step (v := .d (.cptr (some 2) (eapi_Row x8) 0)) (st_iaddr (xs := a0) (e := eapi_Row) hx8 rfl rfl) ?_
        refine step (v := .d (.cptr (some 2) (eapi_Row x8) 0)) rfl ?_
        refine step (v := .d (eL (some 2) eapi_Pair x8.Match)) rfl ?_
        refine step (v := .d (eL (some 2) eapi_Row a1)) rfl ?_
        refine step (v := .d (.int .i64 i2)) rfl ?_
        refine step (v := .d (.cptr (some 2) (eapi_Row x9) 0)) (st_iaddr (xs := a1) (e := eapi_Row) hx9 rfl rfl) ?_
        refine step (v := .d (.cptr (some 2) (eapi_Row x9) 0)) rfl ?_
        refine step (v := .d (eL (some 2) eapi_Pair x9.Match)) rfl ?_
        refine stepC (r := .bool r10) (ArgsOk.dt (ArgsOk.dt ArgsOk.nil')) (c_ref05_SamePairs hr10) ?_
        refine step (v := .d (.bool (!r10))) rfl ?_
        refine step (v := .d (.bool (!r10))) rfl ?_
        by_cases hg11 : (!r10) = true
        · refine stepX (c := (!r10)) rfl (by rw [hg11]; decide) ?_
          refine stepX (c := (!r10)) rfl (by rw [hg11]; decide) ?_
          refine stepX (c := (!r10)) rfl (by rw [hg11]; decide) ?_
          refine stepX (c := (!r10)) rfl (by rw [hg11]; decide) ?_
          refine stepX (c := (!r10)) rfl (by rw [hg11]; decide) ?_
          refine stepX (c := (!r10)) rfl (by rw [hg11]; decide) ?_
          refine stepX (c := (!r10)) rfl (by rw [hg11]; decide) ?_
          refine stepX (c := (!r10)) rfl (by rw [hg11]; decide) ?_
          refine stepX (c := (!r10)) rfl (by rw [hg11]; decide) ?_
          refine stepX (c := (!r10)) rfl (by rw [hg11]; decide) ?_
          refine stepX (c := (!r10)) rfl (by rw [hg11]; decide) ?_
          refine stepX (c := (!r10)) rfl (by rw [hg11]; decide) ?_
          refine stepX (c := (!r10)) rfl (by rw [hg11]; decide) ?_
          refine step (v := .d (.bool true)) (st_pickT (b := (!r10)) rfl hg11 rfl) ?_
          exact RunOps.nil' (Norm.mk [] (by decide) (by decide) (by decide) ⟨.d _, .d _, .d _, .eq (by simp [hg11]), trivial⟩ trivial)
        · refine stepG (c := (!r10)) rfl (Bool.eq_false_iff.2 hg11) ?_
          refine step (v := .d (eL (some 2) eapi_Row a0)) rfl ?_
          refine stepG (c := (!r10)) rfl (Bool.eq_false_iff.2 hg11) ?_
          refine step (v := .d (.int .i64 i2)) rfl ?_
          refine stepG (c := (!r10)) rfl (Bool.eq_false_iff.2 hg11) ?_
          refine step (v := .d (.cptr (some 2) (eapi_Row x8) 0)) (st_iaddr (xs := a0) (e := eapi_Row) hx8 rfl rfl) ?_
          refine stepG (c := (!r10)) rfl (Bool.eq_false_iff.2 hg11) ?_
          refine step (v := .d (.cptr (some 2) (eapi_Row x8) 1)) rfl ?_
          refine stepG (c := (!r10)) rfl (Bool.eq_false_iff.2 hg11) ?_
          refine step (v := .d (eL none (eL (some 2) eapi_Pair) x8.Acts)) rfl ?_
          refine stepG (c := (!r10)) rfl (Bool.eq_false_iff.2 hg11) ?_
          refine step (v := .d (.int .i64 (x8.Acts.length : Int))) (st_len (xs := x8.Acts) (e := (eL (some 2) eapi_Pair)) rfl) ?_
          refine stepG (c := (!r10)) rfl (Bool.eq_false_iff.2 hg11) ?_
          refine step (v := .d (eL (some 2) eapi_Row a1)) rfl ?_
          refine stepG (c := (!r10)) rfl (Bool.eq_false_iff.2 hg11) ?_
          refine step (v := .d (.int .i64 i2)) rfl ?_
          refine stepG (c := (!r10)) rfl (Bool.eq_false_iff.2 hg11) ?_
          refine step (v := .d (.cptr (some 2) (eapi_Row x9) 0)) (st_iaddr (xs := a1) (e := eapi_Row) hx9 rfl rfl) ?_
          refine stepG (c := (!r10)) rfl (Bool.eq_false_iff.2 hg11) ?_
          refine step (v := .d (.cptr (some 2) (eapi_Row x9) 1)) rfl ?_
          refine stepG (c := (!r10)) rfl (Bool.eq_false_iff.2 hg11) ?_
          refine step (v := .d (eL none (eL (some 2) eapi_Pair) x9.Acts)) rfl ?_
          refine stepG (c := (!r10)) rfl (Bool.eq_false_iff.2 hg11) ?_
          refine step (v := .d (.int .i64 (x9.Acts.length : Int))) (st_len (xs := x9.Acts) (e := (eL (some 2) eapi_Pair)) rfl) ?_
          refine stepG (c := (!r10)) rfl (Bool.eq_false_iff.2 hg11) ?_
          refine step (v := .d (.bool ((x8.Acts.length : Int) != (x9.Acts.length : Int)))) rfl ?_
          refine step (v := .d (.bool ((x8.Acts.length : Int) != (x9.Acts.length : Int)))) (st_pickF (b := (!r10)) rfl hg11 rfl) ?_
          exact RunOps.nil' (Norm.mk [] (by decide) (by decide) (by decide) ⟨.d _, .d _, .d _, .eq (by simp [hg11]), trivial⟩ trivial)
      by_cases hc12 : ((!r10) || ((x8.Acts.length : Int) != (x9.Acts.length : Int))) = true
      · replace h := iteT hc12 h
        refine NWp.condT (t := ((!r10) || ((x8.Acts.length : Int) != (x9.Acts.length : Int)))) rfl hc12 ?_
        refine NWp.opsJ ⟨tab [(4, .d (.bool false))], stab [], 0⟩ ?_ ?_
        · refine step (v := .d (.bool false)) rfl ?_
          exact RunOps.nil' (Norm.mk [] (by decide) (by decide) (by decide) ⟨.d _, trivial⟩ trivial)
        obtain ⟨r13, kr13, hr⟩ := mapE (o := some false) (g := Br.ret) h
        subst hr
        have h := kr13
        have hh := Option.some.inj h
        subst hh
        refine NWp.ret ?_
        refine And.intro (fun hn => nomatch hn) ?_
        intro hq
        have hq := hq.symm
        subst hq
        show FQ _ _ _ _
        exact FQ.mk1 (.inr rfl) (res_t (v := .d (.bool false)) rfl rfl) (RV.d trivial)
      · replace h := iteF hc12 h
        refine NWp.condF (t := ((!r10) || ((x8.Acts.length : Int) != (x9.Acts.length : Int)))) rfl hc12 ?_
        refine NWp.skip ?_
        refine NWp.opsJ ⟨tab [(0, .d (eL (some 2) eapi_Row a0)), (1, .d (eL (some 2) eapi_Row a1)), (5, .d (.int .i64 i2)), (6, .d (.int .i64 0))], stab [], 0⟩ ?_ ?_
        · refine step (v := .d (.int .i64 0)) rfl ?_
          exact RunOps.nil' (Norm.mk [] (by decide) (by decide) (by decide) ⟨.d _, .d _, .d _, .d _, trivial⟩ trivial)
        obtain ⟨q23, hl, h⟩ := bindE h
        refine NWp.block ?_
        refine loop_forR (cntU (x8.Acts.length : Int)) (fun (i13 : Int) (qq : Unit) => ⟨tab [(0, .d (eL (some 2) eapi_Row a0)), (1, .d (eL (some 2) eapi_Row a1)), (5, .d (.int .i64 i2)), (6, .d (.int .i64 i13))], stab [], 0⟩) 2 (fun (qq : Unit) => ⟨tab [(0, .d (eL (some 2) eapi_Row a0)), (1, .d (eL (some 2) eapi_Row a1)), (5, .d (.int .i64 i2))], stab [], 0⟩) Low low_step (r := xr7) hl (by unfold Low; omega) ?_ ?_ ?_ ?_
        · rintro i13 ⟨⟩ xr18 hinv16 hgo15 h
          show NWp _ _ _ _ _ ⟨tab [(0, .d (eL (some 2) eapi_Row a0)), (1, .d (eL (some 2) eapi_Row a1)), (5, .d (.int .i64 i2)), (6, .d (.int .i64 i13))], stab [], 0⟩
          have hc17 : decide (i13 < (x8.Acts.length : Int)) = true := decide_eq_true hgo15
          refine NWp.seq ?_
          refine NWp.opsJ ⟨tab [(0, .d (eL (some 2) eapi_Row a0)), (1, .d (eL (some 2) eapi_Row a1)), (5, .d (.int .i64 i2)), (6, .d (.int .i64 i13)), (51, .d (.int .i64 (x8.Acts.length : Int))), (52, .d (.bool (decide (i13 < (x8.Acts.length : Int)))))], stab [], 0⟩ ?_ ?_
          · refine step (v := .d (.int .i64 i13)) rfl ?_
            refine step (v := .d (eL (some 2) eapi_Row a0)) rfl ?_
            refine step (v := .d (.int .i64 i2)) rfl ?_
            refine step (v := .d (.cptr (some 2) (eapi_Row x8) 0)) (st_iaddr (xs := a0) (e := eapi_Row) hx8 rfl rfl) ?_
            refine step (v := .d (.cptr (some 2) (eapi_Row x8) 1)) rfl ?_
            refine step (v := .d (eL none (eL (some 2) eapi_Pair) x8.Acts)) rfl ?_
            refine step (v := .d (.int .i64 (x8.Acts.length : Int))) (st_len (xs := x8.Acts) (e := (eL (some 2) eapi_Pair)) rfl) ?_
            refine step (v := .d (.bool (decide (i13 < (x8.Acts.length : Int))))) rfl ?_
            exact RunOps.nil' (Norm.mk [] (by decide) (by decide) (by decide) ⟨.d _, .d _, .d _, .d _, .d _, .d _, trivial⟩ trivial)
          refine NWp.rng 51 rfl fun hB14 => ?_
          refine NWp.condT (t := decide (i13 < (x8.Acts.length : Int))) rfl hc17 ?_
          refine NWp.skip ?_
          refine NWp.seq ?_
          refine NWp.block ?_
          obtain ⟨x19, hx19, h⟩ := bindE h
          obtain ⟨x20, hx20, h⟩ := bindE h
          obtain ⟨r21, hr21, h⟩ := bindE h
          refine NWp.opsJ ⟨tab [(0, .d (eL (some 2) eapi_Row a0)), (1, .d (eL (some 2) eapi_Row a1)), (5, .d (.int .i64 i2)), (6, .d (.int .i64 i13)), (72, .d (.bool (!r21)))], stab [], 0⟩ ?_ ?_
          · refine step (v := .d (eL (some 2) eapi_Row a0)) rfl ?_
            refine step (v := .d (.int .i64 i2)) rfl ?_
            refine step (v := .d (.cptr (some 2) (eapi_Row x8) 0)) (st_iaddr (xs := a0) (e := eapi_Row) hx8 rfl rfl) ?_
            refine step (v := .d (.cptr (some 2) (eapi_Row x8) 1)) rfl ?_
            refine step (v := .d (eL none (eL (some 2) eapi_Pair) x8.Acts)) rfl ?_
            refine step (v := .d (.int .i64 i13)) rfl ?_
            refine step (v := .d (.cptr none (eL (some 2) eapi_Pair x19) 0)) (st_iaddr (xs := x8.Acts) (e := (eL (some 2) eapi_Pair)) hx19 rfl rfl) ?_
            refine step (v := .d (eL (some 2) eapi_Pair x19)) rfl ?_
            refine step (v := .d (eL (some 2) eapi_Row a1)) rfl ?_
            refine step (v := .d (.int .i64 i2)) rfl ?_
            refine step (v := .d (.cptr (some 2) (eapi_Row x9) 0)) (st_iaddr (xs := a1) (e := eapi_Row) hx9 rfl rfl) ?_
            refine step (v := .d (.cptr (some 2) (eapi_Row x9) 1)) rfl ?_
            refine step (v := .d (eL none (eL (some 2) eapi_Pair) x9.Acts)) rfl ?_
            refine step (v := .d (.int .i64 i13)) rfl ?_
            refine step (v := .d (.cptr none (eL (some 2) eapi_Pair x20) 0)) (st_iaddr (xs := x9.Acts) (e := (eL (some 2) eapi_Pair)) hx20 rfl rfl) ?_
            refine step (v := .d (eL (some 2) eapi_Pair x20)) rfl ?_
            refine stepC (r := .bool r21) (ArgsOk.dt (ArgsOk.dt ArgsOk.nil')) (c_ref05_SamePairs hr21) ?_
            refine step (v := .d (.bool (!r21))) rfl ?_
            exact RunOps.nil' (Norm.mk [] (by decide) (by decide) (by decide) ⟨.d _, .d _, .d _, .d _, .d _, trivial⟩ trivial)
          by_cases hc22 : (!r21) = true
          · replace h := iteT hc22 h
            refine NWp.condT (t := (!r21)) rfl hc22 ?_
            refine NWp.opsJ ⟨tab [(4, .d (.bool false))], stab [], 0⟩ ?_ ?_
            · refine step (v := .d (.bool false)) rfl ?_
              exact RunOps.nil' (Norm.mk [] (by decide) (by decide) (by decide) ⟨.d _, trivial⟩ trivial)
            obtain ⟨r23, kr23, hr⟩ := mapE (o := some (Br.ret false)) (g := Br.ret) h
            subst hr
            have h := kr23
            obtain ⟨r24, kr24, hr⟩ := mapE (o := some false) (g := Br.ret) h
            subst hr
            have h := kr24
            have hh := Option.some.inj h
            subst hh
            refine NWp.ret ?_
            refine And.intro (fun hn => nomatch hn) ?_
            intro hq
            have hq := hq.symm
            subst hq
            refine And.intro (fun hn => nomatch hn) ?_
            intro hq
            have hq := hq.symm
            subst hq
            show FQ _ _ _ _
            exact FQ.mk1 (.inr rfl) (res_t (v := .d (.bool false)) rfl rfl) (RV.d trivial)
          · replace h := iteF hc22 h
            refine NWp.condF (t := (!r21)) rfl hc22 ?_
            refine NWp.skip ?_
            have hh := Option.some.inj h
            subst hh
            refine NWp.opsE ⟨tab [(0, .d (eL (some 2) eapi_Row a0)), (1, .d (eL (some 2) eapi_Row a1)), (5, .d (.int .i64 i2)), (6, .d (.int .i64 (i13 + 1)))], stab [], 0⟩ ?_ ?_
            · refine step (v := .d (.int .i64 i13)) rfl ?_
              refine step (v := .d (.int .i64 (i13 + 1))) (st_inc (inc_ok hinv16 hgo15 hB14) rfl rfl) ?_
              refine step (v := .d (.int .i64 (i13 + 1))) rfl ?_
              exact RunOps.nil' (Norm.mk [] (by decide) (by decide) (by decide) ⟨.d _, .d _, .d _, .d _, trivial⟩ trivial)
            exact And.intro rfl rfl
        · rintro i13 ⟨⟩ hinv16 hgo15
          show NWp _ _ _ _ _ ⟨tab [(0, .d (eL (some 2) eapi_Row a0)), (1, .d (eL (some 2) eapi_Row a1)), (5, .d (.int .i64 i2)), (6, .d (.int .i64 i13))], stab [], 0⟩
          have hc17 : ¬ (decide (i13 < (x8.Acts.length : Int)) = true) := fun hq => hgo15 (of_decide_eq_true hq)
          refine NWp.seq ?_
          refine NWp.opsJ ⟨tab [(0, .d (eL (some 2) eapi_Row a0)), (1, .d (eL (some 2) eapi_Row a1)), (5, .d (.int .i64 i2)), (6, .d (.int .i64 i13)), (52, .d (.bool (decide (i13 < (x8.Acts.length : Int)))))], stab [], 0⟩ ?_ ?_
          · refine step (v := .d (.int .i64 i13)) rfl ?_
            refine step (v := .d (eL (some 2) eapi_Row a0)) rfl ?_
            refine step (v := .d (.int .i64 i2)) rfl ?_
            refine step (v := .d (.cptr (some 2) (eapi_Row x8) 0)) (st_iaddr (xs := a0) (e := eapi_Row) hx8 rfl rfl) ?_
            refine step (v := .d (.cptr (some 2) (eapi_Row x8) 1)) rfl ?_
            refine step (v := .d (eL none (eL (some 2) eapi_Pair) x8.Acts)) rfl ?_
            refine step (v := .d (.int .i64 (x8.Acts.length : Int))) (st_len (xs := x8.Acts) (e := (eL (some 2) eapi_Pair)) rfl) ?_
            refine step (v := .d (.bool (decide (i13 < (x8.Acts.length : Int))))) rfl ?_
            exact RunOps.nil' (Norm.mk [] (by decide) (by decide) (by decide) ⟨.d _, .d _, .d _, .d _, .d _, trivial⟩ trivial)
          refine NWp.condF (t := decide (i13 < (x8.Acts.length : Int))) rfl hc17 ?_
          refine NWp.norm (s0 := ⟨tab [(0, .d (eL (some 2) eapi_Row a0)), (1, .d (eL (some 2) eapi_Row a1)), (5, .d (.int .i64 i2))], stab [], 0⟩) (Norm.mk [] (by decide) (by decide) (by decide) ⟨.d _, .d _, .d _, trivial⟩ trivial) ?_
          refine NWp.exit ?_
          exact And.intro rfl rfl
        · intro r' hq
          subst hq
          exact Option.some.inj h
        rintro ⟨⟩ rfl
        have hh := Option.some.inj h
        subst hh
        refine NWp.opsE ⟨tab [(0, .d (eL (some 2) eapi_Row a0)), (1, .d (eL (some 2) eapi_Row a1)), (5, .d (.int .i64 (i2 + 1)))], stab [], 0⟩ ?_ ?_
        · refine step (v := .d (.int .i64 i2)) rfl ?_
          refine step (v := .d (.int .i64 (i2 + 1))) (st_inc (inc_ok hinv5 hgo4 hB3) rfl rfl) ?_
          refine step (v := .d (.int .i64 (i2 + 1))) rfl ?_
          exact RunOps.nil' (Norm.mk [] (by decide) (by decide) (by decide) ⟨.d _, .d _, .d _, trivial⟩ trivial)
        exact And.intro rfl rfl
    · rintro i2 ⟨⟩ hinv5 hgo4
      show NWp _ _ _ _ _ ⟨tab [(0, .d (eL (some 2) eapi_Row a0)), (1, .d (eL (some 2) eapi_Row a1)), (5, .d (.int .i64 i2))], stab [], 0⟩
      have hc6 : ¬ (decide (i2 < (a0.length : Int)) = true) := fun hq => hgo4 (of_decide_eq_true hq)
      refine NWp.seq ?_
      refine NWp.opsJ ⟨tab [(0, .d (eL (some 2) eapi_Row a0)), (1, .d (eL (some 2) eapi_Row a1)), (5, .d (.int .i64 i2)), (15, .d (.bool (decide (i2 < (a0.length : Int)))))], stab [], 0⟩ ?_ ?_
      · refine step (v := .d (.int .i64 i2)) rfl ?_
        refine step (v := .d (eL (some 2) eapi_Row a0)) rfl ?_
        refine step (v := .d (.int .i64 (a0.length : Int))) (st_len (xs := a0) (e := eapi_Row) rfl) ?_
        refine step (v := .d (.bool (decide (i2 < (a0.length : Int))))) rfl ?_
        exact RunOps.nil' (Norm.mk [] (by decide) (by decide) (by decide) ⟨.d _, .d _, .d _, .d _, trivial⟩ trivial)
      refine NWp.condF (t := decide (i2 < (a0.length : Int))) rfl hc6 ?_
      refine NWp.norm (s0 := ⟨tab [], stab [], 0⟩) (Norm.mk [] (by decide) (by decide) (by decide) trivial trivial) ?_
      refine NWp.exit ?_
      exact And.intro rfl rfl
    · intro r' hq
      subst hq
      exact Option.some.inj h
    rintro ⟨⟩ rfl
    refine NWp.opsJ ⟨tab [(4, .d (.bool true))], stab [], 0⟩ ?_ ?_
    · refine step (v := .d (.bool true)) rfl ?_
      exact RunOps.nil' (Norm.mk [] (by decide) (by decide) (by decide) ⟨.d _, trivial⟩ trivial)
    have hh := Option.some.inj h
    subst hh
    refine NWp.ret ?_
    show FQ _ _ _ _
    exact FQ.mk1 (.inr rfl) (res_t (v := .d (.bool true)) rfl rfl) (RV.d trivial)

theorem c_ref26_same {a0 : api_Row} {a1 : api_Row} {r : Bool} (h : ref26_same a0 a1 = some r) : PCall Try.prog 54 [eapi_Row a0, eapi_Row a1] (.bool r) := by
  refine PCall.introN ok54 (show 2 ≤ 12 by decide) ?_
  refine NWp.norm (s0 := ⟨tab [(0, .d (eapi_Row a0)), (1, .d (eapi_Row a1))], stab [], 0⟩) (Norm.mk [] (by decide) (by decide) (by decide) ⟨.d _, .d _, trivial⟩ trivial) ?_
  refine NWp.opsJ ⟨tab [(2, .ptr 0 0 0), (3, .ptr 1 0 0)], stab [(0, .var [.d (eL (some 2) eapi_Pair a0.Match), .d (eL none (eL (some 2) eapi_Pair) a0.Acts)]), (1, .var [.d (eL (some 2) eapi_Pair a1.Match), .d (eL none (eL (some 2) eapi_Pair) a1.Acts)])], 2⟩ ?_ ?_
  · refine step (v := .ptr 0 0 0) (σ' := (upd (stab []) 0 (some (.var [.d (eL (some 2) eapi_Pair a0.Match), .d (eL none (eL (some 2) eapi_Pair) a0.Acts)])))) (n' := 1) rfl ?_
    refine step (v := .ptr 1 0 0) (σ' := (upd (upd (stab []) 0 (some (.var [.d (eL (some 2) eapi_Pair a0.Match), .d (eL none (eL (some 2) eapi_Pair) a0.Acts)]))) 1 (some (.var [.d (eL (some 2) eapi_Pair a1.Match), .d (eL none (eL (some 2) eapi_Pair) a1.Acts)])))) (n' := 2) rfl ?_
    refine step (v := .d (.bool false)) rfl ?_
    exact RunOps.nil' (Norm.mk [0, 1] (by decide) (by decide) (by decide) ⟨.ptr 0 _ _ (show 0 < 2 by decide), .ptr 1 _ _ (show 1 < 2 by decide), trivial⟩ ⟨⟨show 0 < 2 by decide, _, rfl, .vars ⟨.d _, .d _, trivial⟩⟩, ⟨show 1 < 2 by decide, _, rfl, .vars ⟨.d _, .d _, trivial⟩⟩, trivial⟩)
  refine NWp.opsJ ⟨tab [(2, .ptr 0 0 0), (3, .ptr 1 0 0)], stab [(0, .var [.d (eL (some 2) eapi_Pair ([] : List api_Pair)), .d (eL none (eL (some 2) eapi_Pair) a0.Acts)]), (1, .var [.d (eL (some 2) eapi_Pair a1.Match), .d (eL none (eL (some 2) eapi_Pair) a1.Acts)])], 2⟩ ?_ ?_
  · refine step (v := .ptr 0 0 0) rfl ?_
    refine step (v := V.undef) (σ' := (upd (stab [(0, .var [.d (eL (some 2) eapi_Pair a0.Match), .d (eL none (eL (some 2) eapi_Pair) a0.Acts)]), (1, .var [.d (eL (some 2) eapi_Pair a1.Match), .d (eL none (eL (some 2) eapi_Pair) a1.Acts)])]) 0 (some (.var [.d (eL (some 2) eapi_Pair ([] : List api_Pair)), .d (eL none (eL (some 2) eapi_Pair) a0.Acts)])))) (n' := 2) rfl ?_
    exact RunOps.nil' (Norm.mk [0, 1] (by decide) (by decide) (by decide) ⟨.ptr 0 _ _ (show 0 < 2 by decide), .ptr 1 _ _ (show 1 < 2 by decide), trivial⟩ ⟨⟨show 0 < 2 by decide, _, rfl, .vars ⟨.d _, .d _, trivial⟩⟩, ⟨show 1 < 2 by decide, _, rfl, .vars ⟨.d _, .d _, trivial⟩⟩, trivial⟩)
  refine NWp.opsJ ⟨tab [(2, .ptr 0 0 0), (3, .ptr 1 0 0)], stab [(0, .var [.d (eL (some 2) eapi_Pair ([] : List api_Pair)), .d (eL none (eL (some 2) eapi_Pair) a0.Acts)]), (1, .var [.d (eL (some 2) eapi_Pair ([] : List api_Pair)), .d (eL none (eL (some 2) eapi_Pair) a1.Acts)])], 2⟩ ?_ ?_
  · refine step (v := .ptr 1 0 0) rfl ?_
    refine step (v := V.undef) (σ' := (upd (stab [(0, .var [.d (eL (some 2) eapi_Pair ([] : List api_Pair)), .d (eL none (eL (some 2) eapi_Pair) a0.Acts)]), (1, .var [.d (eL (some 2) eapi_Pair a1.Match), .d (eL none (eL (some 2) eapi_Pair) a1.Acts)])]) 1 (some (.var [.d (eL (some 2) eapi_Pair ([] : List api_Pair)), .d (eL none (eL (some 2) eapi_Pair) a1.Acts)])))) (n' := 2) rfl ?_
    exact RunOps.nil' (Norm.mk [0, 1] (by decide) (by decide) (by decide) ⟨.ptr 0 _ _ (show 0 < 2 by decide), .ptr 1 _ _ (show 1 < 2 by decide), trivial⟩ ⟨⟨show 0 < 2 by decide, _, rfl, .vars ⟨.d _, .d _, trivial⟩⟩, ⟨show 1 < 2 by decide, _, rfl, .vars ⟨.d _, .d _, trivial⟩⟩, trivial⟩)
  obtain ⟨r1, hr1, h⟩ := bindE h
  refine NWp.opsJ ⟨tab [(4, .d (.bool r1))], stab [], 0⟩ ?_ ?_
  · refine step (v := .d (eapi_Row (api_Row.mk ([] : List api_Pair) a0.Acts))) (st_ldV (ds := [eL (some 2) eapi_Pair ([] : List api_Pair), eL none (eL (some 2) eapi_Pair) a0.Acts]) rfl rfl (show 2 ≤ 2 by decide) rfl) ?_
    refine step (v := .d (eL (some 2) eapi_Row ([(api_Row.mk ([] : List api_Pair) a0.Acts)] : List api_Row))) rfl ?_
    refine step (v := .d (eapi_Row (api_Row.mk ([] : List api_Pair) a1.Acts))) (st_ldV (ds := [eL (some 2) eapi_Pair ([] : List api_Pair), eL none (eL (some 2) eapi_Pair) a1.Acts]) rfl rfl (show 2 ≤ 2 by decide) rfl) ?_
    refine step (v := .d (eL (some 2) eapi_Row ([(api_Row.mk ([] : List api_Pair) a1.Acts)] : List api_Row))) rfl ?_
    refine stepC (r := .bool r1) (ArgsOk.dt (ArgsOk.dt ArgsOk.nil')) (c_ref09_Same hr1) ?_
    refine step (v := .d (.bool r1)) rfl ?_
    exact RunOps.nil' (Norm.mk [] (by decide) (by decide) (by decide) ⟨.d _, trivial⟩ trivial)
  have hh := Option.some.inj h
  subst hh
  refine NWp.ret ?_
  show FQ _ _ _ _
  exact FQ.mk1 (.inr rfl) (res_t (v := .d (.bool r1)) rfl rfl) (RV.d trivial)

theorem c_ref26_Apart {a0 : api_Row} {a1 : api_Row} {r : Bool} (h : ref26_Apart a0 a1 = some r) : PCall Try.prog 36 [eapi_Row a0, eapi_Row a1] (.bool r) := by
  refine PCall.introN ok36 (show 2 ≤ 49 by decide) ?_
  refine NWp.norm (s0 := ⟨tab [(0, .d (eapi_Row a0)), (1, .d (eapi_Row a1))], stab [], 0⟩) (Norm.mk [] (by decide) (by decide) (by decide) ⟨.d _, .d _, trivial⟩ trivial) ?_
  refine NWp.opsJ ⟨tab [(2, .d (.cptr (some 2) (eapi_Row a0) 0)), (3, .d (.cptr (some 2) (eapi_Row a1) 0))], stab [], 0⟩ ?_ ?_
  · refine step (v := .d (.cptr (some 2) (eapi_Row a0) 0)) rfl ?_
    refine step (v := .d (.cptr (some 2) (eapi_Row a1) 0)) rfl ?_
    refine step (v := .d (.bool false)) rfl ?_
    exact RunOps.nil' (Norm.mk [] (by decide) (by decide) (by decide) ⟨.d _, .d _, trivial⟩ trivial)
  refine NWp.seq ?_
  refine NWp.opsJ ⟨tab [(2, .d (.cptr (some 2) (eapi_Row a0) 0)), (3, .d (.cptr (some 2) (eapi_Row a1) 0)), (5, .d (.int .i64 0))], stab [], 0⟩ ?_ ?_
  · refine step (v := .d (.int .i64 0)) rfl ?_
    exact RunOps.nil' (Norm.mk [] (by decide) (by decide) (by decide) ⟨.d _, .d _, .d _, trivial⟩ trivial)
  obtain ⟨q18, hl, h⟩ := bindE h
  refine NWp.block ?_
  refine loop_forR (cntU (a0.Match.length : Int)) (fun (i1 : Int) (qq : Unit) => ⟨tab [(2, .d (.cptr (some 2) (eapi_Row a0) 0)), (3, .d (.cptr (some 2) (eapi_Row a1) 0)), (5, .d (.int .i64 i1))], stab [], 0⟩) 0 (fun (qq : Unit) => ⟨tab [], stab [], 0⟩) Low low_step (r := r) hl (by unfold Low; omega) ?_ ?_ ?_ ?_
  · rintro i1 ⟨⟩ xr6 hinv4 hgo3 h
    show NWp _ _ _ _ _ ⟨tab [(2, .d (.cptr (some 2) (eapi_Row a0) 0)), (3, .d (.cptr (some 2) (eapi_Row a1) 0)), (5, .d (.int .i64 i1))], stab [], 0⟩
    have hc5 : decide (i1 < (a0.Match.length : Int)) = true := decide_eq_true hgo3
    refine NWp.seq ?_
    refine NWp.opsJ ⟨tab [(2, .d (.cptr (some 2) (eapi_Row a0) 0)), (3, .d (.cptr (some 2) (eapi_Row a1) 0)), (5, .d (.int .i64 i1)), (10, .d (.int .i64 (a0.Match.length : Int))), (11, .d (.bool (decide (i1 < (a0.Match.length : Int)))))], stab [], 0⟩ ?_ ?_
    · refine step (v := .d (.int .i64 i1)) rfl ?_
      refine step (v := .d (.cptr (some 2) (eapi_Row a0) 0)) rfl ?_
      refine step (v := .d (eL (some 2) eapi_Pair a0.Match)) rfl ?_
      refine step (v := .d (.int .i64 (a0.Match.length : Int))) (st_len (xs := a0.Match) (e := eapi_Pair) rfl) ?_
      refine step (v := .d (.bool (decide (i1 < (a0.Match.length : Int))))) rfl ?_
      exact RunOps.nil' (Norm.mk [] (by decide) (by decide) (by decide) ⟨.d _, .d _, .d _, .d _, .d _, trivial⟩ trivial)
    refine NWp.rng 10 rfl fun hB2 => ?_
    refine NWp.condT (t := decide (i1 < (a0.Match.length : Int))) rfl hc5 ?_
    refine NWp.skip ?_
    refine NWp.seq ?_
    refine NWp.block ?_
    refine NWp.opsJ ⟨tab [(2, .d (.cptr (some 2) (eapi_Row a0) 0)), (3, .d (.cptr (some 2) (eapi_Row a1) 0)), (5, .d (.int .i64 i1)), (6, .d (.int .i64 0))], stab [], 0⟩ ?_ ?_
    · refine step (v := .d (.int .i64 0)) rfl ?_
      exact RunOps.nil' (Norm.mk [] (by decide) (by decide) (by decide) ⟨.d _, .d _, .d _, .d _, trivial⟩ trivial)
    obtain ⟨q17, hl, h⟩ := bindE h
    refine NWp.block ?_
    refine loop_forR (cntU (a1.Match.length : Int)) (fun (i7 : Int) (qq : Unit) => ⟨tab [(2, .d (.cptr (some 2) (eapi_Row a0) 0)), (3, .d (.cptr (some 2) (eapi_Row a1) 0)), (5, .d (.int .i64 i1)), (6, .d (.int .i64 i7))], stab [], 0⟩) 2 (fun (qq : Unit) => ⟨tab [(2, .d (.cptr (some 2) (eapi_Row a0) 0)), (3, .d (.cptr (some 2) (eapi_Row a1) 0)), (5, .d (.int .i64 i1))], stab [], 0⟩) Low low_step (r := xr6) hl (by unfold Low; omega) ?_ ?_ ?_ ?_
    · rintro i7 ⟨⟩ xr12 hinv10 hgo9 h
      show NWp _ _ _ _ _ ⟨tab [(2, .d (.cptr (some 2) (eapi_Row a0) 0)), (3, .d (.cptr (some 2) (eapi_Row a1) 0)), (5, .d (.int .i64 i1)), (6, .d (.int .i64 i7))], stab [], 0⟩
      have hc11 : decide (i7 < (a1.Match.length : Int)) = true := decide_eq_true hgo9
      refine NWp.seq ?_
      refine NWp.opsJ ⟨tab [(2, .d (.cptr (some 2) (eapi_Row a0) 0)), (3, .d (.cptr (some 2) (eapi_Row a1) 0)), (5, .d (.int .i64 i1)), (6, .d (.int .i64 i7)), (17, .d (.int .i64 (a1.Match.length : Int))), (18, .d (.bool (decide (i7 < (a1.Match.length : Int)))))], stab [], 0⟩ ?_ ?_
      · refine step (v := .d (.int .i64 i7)) rfl ?_
        refine step (v := .d (.cptr (some 2) (eapi_Row a1) 0)) rfl ?_
        refine step (v := .d (eL (some 2) eapi_Pair a1.Match)) rfl ?_
        refine step (v := .d (.int .i64 (a1.Match.length : Int))) (st_len (xs := a1.Match) (e := eapi_Pair) rfl) ?_
        refine step (v := .d (.bool (decide (i7 < (a1.Match.length : Int))))) rfl ?_
        exact RunOps.nil' (Norm.mk [] (by decide) (by decide) (by decide) ⟨.d _, .d _, .d _, .d _, .d _, .d _, trivial⟩ trivial)
      refine NWp.rng 17 rfl fun hB8 => ?_
      refine NWp.condT (t := decide (i7 < (a1.Match.length : Int))) rfl hc11 ?_
      refine NWp.skip ?_
      refine NWp.seq ?_
      refine NWp.block ?_
      obtain ⟨x13, hx13, h⟩ := bindE h
      obtain ⟨x14, hx14, h⟩ := bindE h
      refine NWp.opsJ ⟨tab [(2, .d (.cptr (some 2) (eapi_Row a0) 0)), (3, .d (.cptr (some 2) (eapi_Row a1) 0)), (5, .d (.int .i64 i1)), (6, .d (.int .i64 i7)), (48, .d (.bool ((x13.F == x14.F) && (x13.N != x14.N))))], stab [], 0⟩ ?_ ?_
      · refine step (v := .d (.cptr (some 2) (eapi_Row a0) 0)) rfl ?_
        refine step (v := .d (eL (some 2) eapi_Pair a0.Match)) rfl ?_
        refine step (v := .d (.int .i64 i1)) rfl ?_
        refine step (v := .d (.cptr (some 2) (eapi_Pair x13) 0)) (st_iaddr (xs := a0.Match) (e := eapi_Pair) hx13 rfl rfl) ?_
        refine step (v := .d (.cptr (some 2) (eapi_Pair x13) 0)) rfl ?_
        refine step (v := .d (.int .i64 x13.F)) rfl ?_
        refine step (v := .d (.cptr (some 2) (eapi_Row a1) 0)) rfl ?_
        refine step (v := .d (eL (some 2) eapi_Pair a1.Match)) rfl ?_
        refine step (v := .d (.int .i64 i7)) rfl ?_
        refine step (v := .d (.cptr (some 2) (eapi_Pair x14) 0)) (st_iaddr (xs := a1.Match) (e := eapi_Pair) hx14 rfl rfl) ?_
        refine step (v := .d (.cptr (some 2) (eapi_Pair x14) 0)) rfl ?_
        refine step (v := .d (.int .i64 x14.F)) rfl ?_
        refine step (v := .d (.bool (x13.F == x14.F))) rfl ?_
        refine step (v := .d (.bool (x13.F == x14.F))) rfl ?_
        by_cases hg15 : (x13.F == x14.F) = true
        · refine stepG (c := (x13.F == x14.F)) rfl hg15 ?_
          refine step (v := .d (.cptr (some 2) (eapi_Row a0) 0)) rfl ?_
          refine stepG (c := (x13.F == x14.F)) rfl hg15 ?_
          refine step (v := .d (eL (some 2) eapi_Pair a0.Match)) rfl ?_
          refine stepG (c := (x13.F == x14.F)) rfl hg15 ?_
          refine step (v := .d (.int .i64 i1)) rfl ?_
          refine stepG (c := (x13.F == x14.F)) rfl hg15 ?_
          refine step (v := .d (.cptr (some 2) (eapi_Pair x13) 0)) (st_iaddr (xs := a0.Match) (e := eapi_Pair) hx13 rfl rfl) ?_
          refine stepG (c := (x13.F == x14.F)) rfl hg15 ?_
          refine step (v := .d (.cptr (some 2) (eapi_Pair x13) 1)) rfl ?_
          refine stepG (c := (x13.F == x14.F)) rfl hg15 ?_
          refine step (v := .d (.int .u16 x13.N)) rfl ?_
          refine stepG (c := (x13.F == x14.F)) rfl hg15 ?_
          refine step (v := .d (.cptr (some 2) (eapi_Row a1) 0)) rfl ?_
          refine stepG (c := (x13.F == x14.F)) rfl hg15 ?_
          refine step (v := .d (eL (some 2) eapi_Pair a1.Match)) rfl ?_
          refine stepG (c := (x13.F == x14.F)) rfl hg15 ?_
          refine step (v := .d (.int .i64 i7)) rfl ?_
          refine stepG (c := (x13.F == x14.F)) rfl hg15 ?_
          refine step (v := .d (.cptr (some 2) (eapi_Pair x14) 0)) (st_iaddr (xs := a1.Match) (e := eapi_Pair) hx14 rfl rfl) ?_
          refine stepG (c := (x13.F == x14.F)) rfl hg15 ?_
          refine step (v := .d (.cptr (some 2) (eapi_Pair x14) 1)) rfl ?_
          refine stepG (c := (x13.F == x14.F)) rfl hg15 ?_
          refine step (v := .d (.int .u16 x14.N)) rfl ?_
          refine stepG (c := (x13.F == x14.F)) rfl hg15 ?_
          refine step (v := .d (.bool (x13.N != x14.N))) rfl ?_
          refine step (v := .d (.bool (x13.N != x14.N))) (st_pickT (b := (x13.F == x14.F)) rfl hg15 rfl) ?_
          exact RunOps.nil' (Norm.mk [] (by decide) (by decide) (by decide) ⟨.d _, .d _, .d _, .d _, .eq (by simp [hg15]), trivial⟩ trivial)
        · refine stepX (c := (x13.F == x14.F)) rfl hg15 ?_
          refine stepX (c := (x13.F == x14.F)) rfl hg15 ?_
          refine stepX (c := (x13.F == x14.F)) rfl hg15 ?_
          refine stepX (c := (x13.F == x14.F)) rfl hg15 ?_
          refine stepX (c := (x13.F == x14.F)) rfl hg15 ?_
          refine stepX (c := (x13.F == x14.F)) rfl hg15 ?_
          refine stepX (c := (x13.F == x14.F)) rfl hg15 ?_
          refine stepX (c := (x13.F == x14.F)) rfl hg15 ?_
          refine stepX (c := (x13.F == x14.F)) rfl hg15 ?_
          refine stepX (c := (x13.F == x14.F)) rfl hg15 ?_
          refine stepX (c := (x13.F == x14.F)) rfl hg15 ?_
          refine stepX (c := (x13.F == x14.F)) rfl hg15 ?_
          refine stepX (c := (x13.F == x14.F)) rfl hg15 ?_
          refine step (v := .d (.bool false)) (st_pickF (b := (x13.F == x14.F)) rfl hg15 rfl) ?_
          exact RunOps.nil' (Norm.mk [] (by decide) (by decide) (by decide) ⟨.d _, .d _, .d _, .d _, .eq (by simp [hg15]), trivial⟩ trivial)
      by_cases hc16 : ((x13.F == x14.F) && (x13.N != x14.N)) = true
      · replace h := iteT hc16 h
        refine NWp.condT (t := ((x13.F == x14.F) && (x13.N != x14.N))) rfl hc16 ?_
        refine NWp.opsJ ⟨tab [(4, .d (.bool true))], stab [], 0⟩ ?_ ?_
        · refine step (v := .d (.bool true)) rfl ?_
          exact RunOps.nil' (Norm.mk [] (by decide) (by decide) (by decide) ⟨.d _, trivial⟩ trivial)
        obtain ⟨r17, kr17, hr⟩ := mapE (o := some (Br.ret true)) (g := Br.ret) h
        subst hr
        have h := kr17
        obtain ⟨r18, kr18, hr⟩ := mapE (o := some true) (g := Br.ret) h
        subst hr
        have h := kr18
        have hh := Option.some.inj h
        subst hh
        refine NWp.ret ?_
        refine And.intro (fun hn => nomatch hn) ?_
        intro hq
        have hq := hq.symm
        subst hq
        refine And.intro (fun hn => nomatch hn) ?_
        intro hq
        have hq := hq.symm
        subst hq
        show FQ _ _ _ _
        exact FQ.mk1 (.inr rfl) (res_t (v := .d (.bool true)) rfl rfl) (RV.d trivial)
      · replace h := iteF hc16 h
        refine NWp.condF (t := ((x13.F == x14.F) && (x13.N != x14.N))) rfl hc16 ?_
        refine NWp.skip ?_
        have hh := Option.some.inj h
        subst hh
        refine NWp.opsE ⟨tab [(2, .d (.cptr (some 2) (eapi_Row a0) 0)), (3, .d (.cptr (some 2) (eapi_Row a1) 0)), (5, .d (.int .i64 i1)), (6, .d (.int .i64 (i7 + 1)))], stab [], 0⟩ ?_ ?_
        · refine step (v := .d (.int .i64 i7)) rfl ?_
          refine step (v := .d (.int .i64 (i7 + 1))) (st_inc (inc_ok hinv10 hgo9 hB8) rfl rfl) ?_
          refine step (v := .d (.int .i64 (i7 + 1))) rfl ?_
          exact RunOps.nil' (Norm.mk [] (by decide) (by decide) (by decide) ⟨.d _, .d _, .d _, .d _, trivial⟩ trivial)
        exact And.intro rfl rfl
    · rintro i7 ⟨⟩ hinv10 hgo9
      show NWp _ _ _ _ _ ⟨tab [(2, .d (.cptr (some 2) (eapi_Row a0) 0)), (3, .d (.cptr (some 2) (eapi_Row a1) 0)), (5, .d (.int .i64 i1)), (6, .d (.int .i64 i7))], stab [], 0⟩
      have hc11 : ¬ (decide (i7 < (a1.Match.length : Int)) = true) := fun hq => hgo9 (of_decide_eq_true hq)
      refine NWp.seq ?_
      refine NWp.opsJ ⟨tab [(2, .d (.cptr (some 2) (eapi_Row a0) 0)), (3, .d (.cptr (some 2) (eapi_Row a1) 0)), (5, .d (.int .i64 i1)), (6, .d (.int .i64 i7)), (18, .d (.bool (decide (i7 < (a1.Match.length : Int)))))], stab [], 0⟩ ?_ ?_
      · refine step (v := .d (.int .i64 i7)) rfl ?_
        refine step (v := .d (.cptr (some 2) (eapi_Row a1) 0)) rfl ?_
        refine step (v := .d (eL (some 2) eapi_Pair a1.Match)) rfl ?_
        refine step (v := .d (.int .i64 (a1.Match.length : Int))) (st_len (xs := a1.Match) (e := eapi_Pair) rfl) ?_
        refine step (v := .d (.bool (decide (i7 < (a1.Match.length : Int))))) rfl ?_
        exact RunOps.nil' (Norm.mk [] (by decide) (by decide) (by decide) ⟨.d _, .d _, .d _, .d _, .d _, trivial⟩ trivial)
      refine NWp.condF (t := decide (i7 < (a1.Match.length : Int))) rfl hc11 ?_
      refine NWp.norm (s0 := ⟨tab [(2, .d (.cptr (some 2) (eapi_Row a0) 0)), (3, .d (.cptr (some 2) (eapi_Row a1) 0)), (5, .d (.int .i64 i1))], stab [], 0⟩) (Norm.mk [] (by decide) (by decide) (by decide) ⟨.d _, .d _, .d _, trivial⟩ trivial) ?_
      refine NWp.exit ?_
      exact And.intro rfl rfl
    · intro r' hq
      subst hq
      exact Option.some.inj h
    rintro ⟨⟩ rfl
    have hh := Option.some.inj h
    subst hh
    refine NWp.opsE ⟨tab [(2, .d (.cptr (some 2) (eapi_Row a0) 0)), (3, .d (.cptr (some 2) (eapi_Row a1) 0)), (5, .d (.int .i64 (i1 + 1)))], stab [], 0⟩ ?_ ?_
    · refine step (v := .d (.int .i64 i1)) rfl ?_
      refine step (v := .d (.int .i64 (i1 + 1))) (st_inc (inc_ok hinv4 hgo3 hB2) rfl rfl) ?_
      refine step (v := .d (.int .i64 (i1 + 1))) rfl ?_
      exact RunOps.nil' (Norm.mk [] (by decide) (by decide) (by decide) ⟨.d _, .d _, .d _, trivial⟩ trivial)
    exact And.intro rfl rfl
  · rintro i1 ⟨⟩ hinv4 hgo3
    show NWp _ _ _ _ _ ⟨tab [(2, .d (.cptr (some 2) (eapi_Row a0) 0)), (3, .d (.cptr (some 2) (eapi_Row a1) 0)), (5, .d (.int .i64 i1))], stab [], 0⟩
    have hc5 : ¬ (decide (i1 < (a0.Match.length : Int)) = true) := fun hq => hgo3 (of_decide_eq_true hq)
    refine NWp.seq ?_
    refine NWp.opsJ ⟨tab [(2, .d (.cptr (some 2) (eapi_Row a0) 0)), (3, .d (.cptr (some 2) (eapi_Row a1) 0)), (5, .d (.int .i64 i1)), (11, .d (.bool (decide (i1 < (a0.Match.length : Int)))))], stab [], 0⟩ ?_ ?_
    · refine step (v := .d (.int .i64 i1)) rfl ?_
      refine step (v := .d (.cptr (some 2) (eapi_Row a0) 0)) rfl ?_
      refine step (v := .d (eL (some 2) eapi_Pair a0.Match)) rfl ?_
      refine step (v := .d (.int .i64 (a0.Match.length : Int))) (st_len (xs := a0.Match) (e := eapi_Pair) rfl) ?_
      refine step (v := .d (.bool (decide (i1 < (a0.Match.length : Int))))) rfl ?_
      exact RunOps.nil' (Norm.mk [] (by decide) (by decide) (by decide) ⟨.d _, .d _, .d _, .d _, trivial⟩ trivial)
    refine NWp.condF (t := decide (i1 < (a0.Match.length : Int))) rfl hc5 ?_
    refine NWp.norm (s0 := ⟨tab [], stab [], 0⟩) (Norm.mk [] (by decide) (by decide) (by decide) trivial trivial) ?_
    refine NWp.exit ?_
    exact And.intro rfl rfl
  · intro r' hq
    subst hq
    exact Option.some.inj h
  rintro ⟨⟩ rfl
  refine NWp.opsJ ⟨tab [(4, .d (.bool false))], stab [], 0⟩ ?_ ?_
  · refine step (v := .d (.bool false)) rfl ?_
    exact RunOps.nil' (Norm.mk [] (by decide) (by decide) (by decide) ⟨.d _, trivial⟩ trivial)
  have hh := Option.some.inj h
  subst hh
  refine NWp.ret ?_
  show FQ _ _ _ _
  exact FQ.mk1 (.inr rfl) (res_t (v := .d (.bool false)) rfl rfl) (RV.d trivial)

theorem c_ref26_Idle {a0 : (List api_Row)} {a1 : Int} {r : Bool} (h : ref26_Idle a0 a1 = some r) : PCall Try.prog 34 [eL (some 2) eapi_Row a0, .int .i64 a1] (.bool r) := by
  refine PCall.introN ok34 (show 2 ≤ 66 by decide) ?_
  refine NWp.norm (s0 := ⟨tab [(0, .d (eL (some 2) eapi_Row a0)), (1, .d (.int .i64 a1))], stab [], 0⟩) (Norm.mk [] (by decide) (by decide) (by decide) ⟨.d _, .d _, trivial⟩ trivial) ?_
  refine NWp.opsJ ⟨tab [(0, .d (eL (some 2) eapi_Row a0)), (1, .d (.int .i64 a1))], stab [], 0⟩ ?_ ?_
  · refine step (v := .d (.bool false)) rfl ?_
    exact RunOps.nil' (Norm.mk [] (by decide) (by decide) (by decide) ⟨.d _, .d _, trivial⟩ trivial)
  refine NWp.seq ?_
  refine NWp.opsJ ⟨tab [(0, .d (eL (some 2) eapi_Row a0)), (1, .d (.int .i64 a1)), (14, .d (.bool ((decide (a1 < 0)) || (decide (a1 ≥ (a0.length : Int))))))], stab [], 0⟩ ?_ ?_
  · refine step (v := .d (.int .i64 a1)) rfl ?_
    refine step (v := .d (.bool (decide (a1 < 0)))) rfl ?_
    refine step (v := .d (.bool (decide (a1 < 0)))) rfl ?_
    by_cases hg1 : decide (a1 < 0) = true
    · refine stepX (c := decide (a1 < 0)) rfl (by rw [hg1]; decide) ?_
      refine stepX (c := decide (a1 < 0)) rfl (by rw [hg1]; decide) ?_
      refine stepX (c := decide (a1 < 0)) rfl (by rw [hg1]; decide) ?_
      refine stepX (c := decide (a1 < 0)) rfl (by rw [hg1]; decide) ?_
      refine step (v := .d (.bool true)) (st_pickT (b := decide (a1 < 0)) rfl hg1 rfl) ?_
      exact RunOps.nil' (Norm.mk [] (by decide) (by decide) (by decide) ⟨.d _, .d _, .eq (by simp [hg1]), trivial⟩ trivial)
    · refine stepG (c := decide (a1 < 0)) rfl (Bool.eq_false_iff.2 hg1) ?_
      refine step (v := .d (.int .i64 a1)) rfl ?_
      refine stepG (c := decide (a1 < 0)) rfl (Bool.eq_false_iff.2 hg1) ?_
      refine step (v := .d (eL (some 2) eapi_Row a0)) rfl ?_
      refine stepG (c := decide (a1 < 0)) rfl (Bool.eq_false_iff.2 hg1) ?_
      refine step (v := .d (.int .i64 (a0.length : Int))) (st_len (xs := a0) (e := eapi_Row) rfl) ?_
      refine stepG (c := decide (a1 < 0)) rfl (Bool.eq_false_iff.2 hg1) ?_
      refine step (v := .d (.bool (decide (a1 ≥ (a0.length : Int))))) rfl ?_
      refine step (v := .d (.bool (decide (a1 ≥ (a0.length : Int))))) (st_pickF (b := decide (a1 < 0)) rfl hg1 rfl) ?_
      exact RunOps.nil' (Norm.mk [] (by decide) (by decide) (by decide) ⟨.d _, .d _, .eq (by simp [hg1]), trivial⟩ trivial)
  by_cases hc2 : ((decide (a1 < 0)) || (decide (a1 ≥ (a0.length : Int)))) = true
  · replace h := iteT hc2 h
    refine NWp.condT (t := ((decide (a1 < 0)) || (decide (a1 ≥ (a0.length : Int))))) rfl hc2 ?_
    refine NWp.opsJ ⟨tab [(4, .d (.bool false))], stab [], 0⟩ ?_ ?_
    · refine step (v := .d (.bool false)) rfl ?_
      exact RunOps.nil' (Norm.mk [] (by decide) (by decide) (by decide) ⟨.d _, trivial⟩ trivial)
    have hh := Option.some.inj h
    subst hh
    refine NWp.ret ?_
    show FQ _ _ _ _
    exact FQ.mk1 (.inr rfl) (res_t (v := .d (.bool false)) rfl rfl) (RV.d trivial)
  · replace h := iteF hc2 h
    refine NWp.condF (t := ((decide (a1 < 0)) || (decide (a1 ≥ (a0.length : Int))))) rfl hc2 ?_
    refine NWp.skip ?_
    refine NWp.seq ?_
    refine NWp.opsJ ⟨tab [(0, .d (eL (some 2) eapi_Row a0)), (1, .d (.int .i64 a1)), (5, .d (.int .i64 0))], stab [], 0⟩ ?_ ?_
    · refine step (v := .d (.int .i64 0)) rfl ?_
      exact RunOps.nil' (Norm.mk [] (by decide) (by decide) (by decide) ⟨.d _, .d _, .d _, trivial⟩ trivial)
    obtain ⟨q30, hl, h⟩ := bindE h
    refine NWp.block ?_
    refine loop_forR (cntU a1) (fun (i3 : Int) (qq : Unit) => ⟨tab [(0, .d (eL (some 2) eapi_Row a0)), (1, .d (.int .i64 a1)), (5, .d (.int .i64 i3))], stab [], 0⟩) 0 (fun (qq : Unit) => ⟨tab [(0, .d (eL (some 2) eapi_Row a0)), (1, .d (.int .i64 a1))], stab [], 0⟩) Low low_step (r := r) hl (by unfold Low; omega) ?_ ?_ ?_ ?_
    · rintro i3 ⟨⟩ xr8 hinv6 hgo5 h
      show NWp _ _ _ _ _ ⟨tab [(0, .d (eL (some 2) eapi_Row a0)), (1, .d (.int .i64 a1)), (5, .d (.int .i64 i3))], stab [], 0⟩
      have hc7 : decide (i3 < a1) = true := decide_eq_true hgo5
      refine NWp.seq ?_
      refine NWp.opsJ ⟨tab [(0, .d (eL (some 2) eapi_Row a0)), (1, .d (.int .i64 a1)), (5, .d (.int .i64 i3)), (16, .d (.int .i64 a1)), (17, .d (.bool (decide (i3 < a1))))], stab [], 0⟩ ?_ ?_
      · refine step (v := .d (.int .i64 i3)) rfl ?_
        refine step (v := .d (.int .i64 a1)) rfl ?_
        refine step (v := .d (.bool (decide (i3 < a1)))) rfl ?_
        exact RunOps.nil' (Norm.mk [] (by decide) (by decide) (by decide) ⟨.d _, .d _, .d _, .d _, .d _, trivial⟩ trivial)
      refine NWp.rng 16 rfl fun hB4 => ?_
      refine NWp.condT (t := decide (i3 < a1)) rfl hc7 ?_
      refine NWp.skip ?_
      refine NWp.seq ?_
      refine NWp.block ?_
      obtain ⟨x9, hx9, h⟩ := bindE h
      obtain ⟨x10, hx10, h⟩ := bindE h
      obtain ⟨r11, hr11, h⟩ := bindE h
      refine NWp.opsJ ⟨tab [(0, .d (eL (some 2) eapi_Row a0)), (1, .d (.int .i64 a1)), (5, .d (.int .i64 i3)), (28, .d (.bool r11))], stab [], 0⟩ ?_ ?_
      · refine step (v := .d (eL (some 2) eapi_Row a0)) rfl ?_
        refine step (v := .d (.int .i64 i3)) rfl ?_
        refine step (v := .d (.cptr (some 2) (eapi_Row x9) 0)) (st_iaddr (xs := a0) (e := eapi_Row) hx9 rfl rfl) ?_
        refine step (v := .d (eapi_Row x9)) rfl ?_
        refine step (v := .d (eL (some 2) eapi_Row a0)) rfl ?_
        refine step (v := .d (.int .i64 a1)) rfl ?_
        refine step (v := .d (.cptr (some 2) (eapi_Row x10) 0)) (st_iaddr (xs := a0) (e := eapi_Row) hx10 rfl rfl) ?_
        refine step (v := .d (eapi_Row x10)) rfl ?_
        refine stepC (r := .bool r11) (ArgsOk.dt (ArgsOk.dt ArgsOk.nil')) (c_ref09_Covers hr11) ?_
        exact RunOps.nil' (Norm.mk [] (by decide) (by decide) (by decide) ⟨.d _, .d _, .d _, .d _, trivial⟩ trivial)
      by_cases hc12 : r11 = true
      · replace h := iteT hc12 h
        refine NWp.condT (t := r11) rfl hc12 ?_
        refine NWp.opsJ ⟨tab [(4, .d (.bool true))], stab [], 0⟩ ?_ ?_
        · refine step (v := .d (.bool true)) rfl ?_
          exact RunOps.nil' (Norm.mk [] (by decide) (by decide) (by decide) ⟨.d _, trivial⟩ trivial)
        obtain ⟨r13, kr13, hr⟩ := mapE (o := some true) (g := Br.ret) h
        subst hr
        have h := kr13
        have hh := Option.some.inj h
        subst hh
        refine NWp.ret ?_
        refine And.intro (fun hn => nomatch hn) ?_
        intro hq
        have hq := hq.symm
        subst hq
        show FQ _ _ _ _
        exact FQ.mk1 (.inr rfl) (res_t (v := .d (.bool true)) rfl rfl) (RV.d trivial)
      · replace h := iteF hc12 h
        refine NWp.condF (t := r11) rfl hc12 ?_
        refine NWp.skip ?_
        have hh := Option.some.inj h
        subst hh
        refine NWp.opsE ⟨tab [(0, .d (eL (some 2) eapi_Row a0)), (1, .d (.int .i64 a1)), (5, .d (.int .i64 (i3 + 1)))], stab [], 0⟩ ?_ ?_
        · refine step (v := .d (.int .i64 i3)) rfl ?_
          refine step (v := .d (.int .i64 (i3 + 1))) (st_inc (inc_ok hinv6 hgo5 hB4) rfl rfl) ?_
          refine step (v := .d (.int .i64 (i3 + 1))) rfl ?_
          exact RunOps.nil' (Norm.mk [] (by decide) (by decide) (by decide) ⟨.d _, .d _, .d _, trivial⟩ trivial)
        exact And.intro rfl rfl
    · rintro i3 ⟨⟩ hinv6 hgo5
      show NWp _ _ _ _ _ ⟨tab [(0, .d (eL (some 2) eapi_Row a0)), (1, .d (.int .i64 a1)), (5, .d (.int .i64 i3))], stab [], 0⟩
      have hc7 : ¬ (decide (i3 < a1) = true) := fun hq => hgo5 (of_decide_eq_true hq)
      refine NWp.seq ?_
      refine NWp.opsJ ⟨tab [(0, .d (eL (some 2) eapi_Row a0)), (1, .d (.int .i64 a1)), (5, .d (.int .i64 i3)), (17, .d (.bool (decide (i3 < a1))))], stab [], 0⟩ ?_ ?_
      · refine step (v := .d (.int .i64 i3)) rfl ?_
        refine step (v := .d (.int .i64 a1)) rfl ?_
        refine step (v := .d (.bool (decide (i3 < a1)))) rfl ?_
        exact RunOps.nil' (Norm.mk [] (by decide) (by decide) (by decide) ⟨.d _, .d _, .d _, .d _, trivial⟩ trivial)
      refine NWp.condF (t := decide (i3 < a1)) rfl hc7 ?_
      refine NWp.norm (s0 := ⟨tab [(0, .d (eL (some 2) eapi_Row a0)), (1, .d (.int .i64 a1))], stab [], 0⟩) (Norm.mk [] (by decide) (by decide) (by decide) ⟨.d _, .d _, trivial⟩ trivial) ?_
      refine NWp.exit ?_
      exact And.intro rfl rfl
    · intro r' hq
      subst hq
      exact Option.some.inj h
    rintro ⟨⟩ rfl
    refine NWp.seq ?_
    refine NWp.opsJ ⟨tab [(0, .d (eL (some 2) eapi_Row a0)), (1, .d (.int .i64 a1)), (6, .d (.int .i64 (IntKind.i64.wrap (a1 + 1))))], stab [], 0⟩ ?_ ?_
    · refine step (v := .d (.int .i64 a1)) rfl ?_
      refine step (v := .d (.int .i64 (IntKind.i64.wrap (a1 + 1)))) rfl ?_
      refine step (v := .d (.int .i64 (IntKind.i64.wrap (a1 + 1)))) rfl ?_
      exact RunOps.nil' (Norm.mk [] (by decide) (by decide) (by decide) ⟨.d _, .d _, .d _, trivial⟩ trivial)
    obtain ⟨q28, hl, h⟩ := bindE h
    refine NWp.rng 6 rfl fun hA29 => ?_
    refine NWp.block ?_
    refine loop_forR (cntU (a0.length : Int)) (fun (i13 : Int) (qq : Unit) => ⟨tab [(0, .d (eL (some 2) eapi_Row a0)), (1, .d (.int .i64 a1)), (6, .d (.int .i64 i13))], stab [], 0⟩) 2 (fun (qq : Unit) => ⟨tab [], stab [], 0⟩) Low low_step (r := r) hl (low_of hA29) ?_ ?_ ?_ ?_
    · rintro i13 ⟨⟩ xr18 hinv16 hgo15 h
      show NWp _ _ _ _ _ ⟨tab [(0, .d (eL (some 2) eapi_Row a0)), (1, .d (.int .i64 a1)), (6, .d (.int .i64 i13))], stab [], 0⟩
      have hc17 : decide (i13 < (a0.length : Int)) = true := decide_eq_true hgo15
      refine NWp.seq ?_
      refine NWp.opsJ ⟨tab [(0, .d (eL (some 2) eapi_Row a0)), (1, .d (.int .i64 a1)), (6, .d (.int .i64 i13)), (33, .d (.int .i64 (a0.length : Int))), (34, .d (.bool (decide (i13 < (a0.length : Int)))))], stab [], 0⟩ ?_ ?_
      · refine step (v := .d (.int .i64 i13)) rfl ?_
        refine step (v := .d (eL (some 2) eapi_Row a0)) rfl ?_
        refine step (v := .d (.int .i64 (a0.length : Int))) (st_len (xs := a0) (e := eapi_Row) rfl) ?_
        refine step (v := .d (.bool (decide (i13 < (a0.length : Int))))) rfl ?_
        exact RunOps.nil' (Norm.mk [] (by decide) (by decide) (by decide) ⟨.d _, .d _, .d _, .d _, .d _, trivial⟩ trivial)
      refine NWp.rng 33 rfl fun hB14 => ?_
      refine NWp.condT (t := decide (i13 < (a0.length : Int))) rfl hc17 ?_
      refine NWp.skip ?_
      obtain ⟨q27, hv, h⟩ := bindE h
      refine NWp.seqS (fun (qq : Unit) => ⟨tab [(0, .d (eL (some 2) eapi_Row a0)), (1, .d (.int .i64 a1)), (6, .d (.int .i64 i13))], stab [], 0⟩) (xv := q27) (r := xr18) ?_ ?_ ?_
      · replace h := hv
        refine NWp.block ?_
        refine NWp.seq ?_
        obtain ⟨x19, hx19, h⟩ := bindE h
        obtain ⟨x20, hx20, h⟩ := bindE h
        obtain ⟨r21, hr21, h⟩ := bindE h
        refine NWp.opsJ ⟨tab [(0, .d (eL (some 2) eapi_Row a0)), (1, .d (.int .i64 a1)), (6, .d (.int .i64 i13)), (46, .d (.bool (!r21)))], stab [], 0⟩ ?_ ?_
        · refine step (v := .d (eL (some 2) eapi_Row a0)) rfl ?_
          refine step (v := .d (.int .i64 i13)) rfl ?_
          refine step (v := .d (.cptr (some 2) (eapi_Row x19) 0)) (st_iaddr (xs := a0) (e := eapi_Row) hx19 rfl rfl) ?_
          refine step (v := .d (eapi_Row x19)) rfl ?_
          refine step (v := .d (eL (some 2) eapi_Row a0)) rfl ?_
          refine step (v := .d (.int .i64 a1)) rfl ?_
          refine step (v := .d (.cptr (some 2) (eapi_Row x20) 0)) (st_iaddr (xs := a0) (e := eapi_Row) hx20 rfl rfl) ?_
          refine step (v := .d (eapi_Row x20)) rfl ?_
          refine stepC (r := .bool r21) (ArgsOk.dt (ArgsOk.dt ArgsOk.nil')) (c_ref26_same hr21) ?_
          refine step (v := .d (.bool (!r21))) rfl ?_
          exact RunOps.nil' (Norm.mk [] (by decide) (by decide) (by decide) ⟨.d _, .d _, .d _, .d _, trivial⟩ trivial)
        by_cases hc22 : (!r21) = true
        · replace h := iteT hc22 h
          refine NWp.condT (t := (!r21)) rfl hc22 ?_
          refine NWp.seq ?_
          obtain ⟨r23, hr23, h⟩ := bindE h
          refine NWp.opsJ ⟨tab [(0, .d (eL (some 2) eapi_Row a0)), (1, .d (.int .i64 a1)), (6, .d (.int .i64 i13)), (56, .d (.bool (!r23)))], stab [], 0⟩ ?_ ?_
          · refine step (v := .d (eL (some 2) eapi_Row a0)) rfl ?_
            refine step (v := .d (.int .i64 i13)) rfl ?_
            refine step (v := .d (.cptr (some 2) (eapi_Row x19) 0)) (st_iaddr (xs := a0) (e := eapi_Row) hx19 rfl rfl) ?_
            refine step (v := .d (eapi_Row x19)) rfl ?_
            refine step (v := .d (eL (some 2) eapi_Row a0)) rfl ?_
            refine step (v := .d (.int .i64 a1)) rfl ?_
            refine step (v := .d (.cptr (some 2) (eapi_Row x20) 0)) (st_iaddr (xs := a0) (e := eapi_Row) hx20 rfl rfl) ?_
            refine step (v := .d (eapi_Row x20)) rfl ?_
            refine stepC (r := .bool r23) (ArgsOk.dt (ArgsOk.dt ArgsOk.nil')) (c_ref26_Apart hr23) ?_
            refine step (v := .d (.bool (!r23))) rfl ?_
            exact RunOps.nil' (Norm.mk [] (by decide) (by decide) (by decide) ⟨.d _, .d _, .d _, .d _, trivial⟩ trivial)
          by_cases hc24 : (!r23) = true
          · replace h := iteT hc24 h
            refine NWp.condT (t := (!r23)) rfl hc24 ?_
            refine NWp.opsJ ⟨tab [(4, .d (.bool false))], stab [], 0⟩ ?_ ?_
            · refine step (v := .d (.bool false)) rfl ?_
              exact RunOps.nil' (Norm.mk [] (by decide) (by decide) (by decide) ⟨.d _, trivial⟩ trivial)
            obtain ⟨r25, kr25, hr⟩ := mapE (o := some (Br.ret false)) (g := Sum.inr) h
            subst hr
            have h := kr25
            obtain ⟨r26, kr26, hr⟩ := mapE (o := some false) (g := Br.ret) h
            subst hr
            have h := kr26
            have hh := Option.some.inj h
            subst hh
            refine NWp.ret ?_
            refine And.intro (fun hn => nomatch hn) ?_
            intro hq
            have hq := hq.symm
            subst hq
            refine And.intro (fun hn => nomatch hn) ?_
            intro hq
            have hq := hq.symm
            subst hq
            show FQ _ _ _ _
            exact FQ.mk1 (.inr rfl) (res_t (v := .d (.bool false)) rfl rfl) (RV.d trivial)
          · replace h := iteF hc24 h
            refine NWp.condF (t := (!r23)) rfl hc24 ?_
            refine NWp.skip ?_
            have hh := Option.some.inj h
            subst hh
            refine NWp.norm (s0 := ⟨tab [(0, .d (eL (some 2) eapi_Row a0)), (1, .d (.int .i64 a1)), (6, .d (.int .i64 i13))], stab [], 0⟩) (Norm.mk [] (by decide) (by decide) (by decide) ⟨.d _, .d _, .d _, trivial⟩ trivial) ?_
            refine NWp.exit ?_
            exact And.intro rfl rfl
        · replace h := iteF hc22 h
          refine NWp.condF (t := (!r21)) rfl hc22 ?_
          refine NWp.skip ?_
          obtain ⟨r25, hr25, h⟩ := bindE h
          refine NWp.opsJ ⟨tab [(0, .d (eL (some 2) eapi_Row a0)), (1, .d (.int .i64 a1)), (6, .d (.int .i64 i13)), (65, .d (.bool r25))], stab [], 0⟩ ?_ ?_
          · refine step (v := .d (eL (some 2) eapi_Row a0)) rfl ?_
            refine step (v := .d (.int .i64 i13)) rfl ?_
            refine step (v := .d (.cptr (some 2) (eapi_Row x19) 0)) (st_iaddr (xs := a0) (e := eapi_Row) hx19 rfl rfl) ?_
            refine step (v := .d (eapi_Row x19)) rfl ?_
            refine step (v := .d (eL (some 2) eapi_Row a0)) rfl ?_
            refine step (v := .d (.int .i64 a1)) rfl ?_
            refine step (v := .d (.cptr (some 2) (eapi_Row x20) 0)) (st_iaddr (xs := a0) (e := eapi_Row) hx20 rfl rfl) ?_
            refine step (v := .d (eapi_Row x20)) rfl ?_
            refine stepC (r := .bool r25) (ArgsOk.dt (ArgsOk.dt ArgsOk.nil')) (c_ref09_Covers hr25) ?_
            exact RunOps.nil' (Norm.mk [] (by decide) (by decide) (by decide) ⟨.d _, .d _, .d _, .d _, trivial⟩ trivial)
          by_cases hc26 : r25 = true
          · replace h := iteT hc26 h
            refine NWp.condT (t := r25) rfl hc26 ?_
            refine NWp.opsJ ⟨tab [(4, .d (.bool true))], stab [], 0⟩ ?_ ?_
            · refine step (v := .d (.bool true)) rfl ?_
              exact RunOps.nil' (Norm.mk [] (by decide) (by decide) (by decide) ⟨.d _, trivial⟩ trivial)
            obtain ⟨r27, kr27, hr⟩ := mapE (o := some (Br.ret true)) (g := Sum.inr) h
            subst hr
            have h := kr27
            obtain ⟨r28, kr28, hr⟩ := mapE (o := some true) (g := Br.ret) h
            subst hr
            have h := kr28
            have hh := Option.some.inj h
            subst hh
            refine NWp.ret ?_
            refine And.intro (fun hn => nomatch hn) ?_
            intro hq
            have hq := hq.symm
            subst hq
            refine And.intro (fun hn => nomatch hn) ?_
            intro hq
            have hq := hq.symm
            subst hq
            show FQ _ _ _ _
            exact FQ.mk1 (.inr rfl) (res_t (v := .d (.bool true)) rfl rfl) (RV.d trivial)
          · replace h := iteF hc26 h
            refine NWp.condF (t := r25) rfl hc26 ?_
            have hh := Option.some.inj h
            subst hh
            refine NWp.norm (s0 := ⟨tab [(0, .d (eL (some 2) eapi_Row a0)), (1, .d (.int .i64 a1)), (6, .d (.int .i64 i13))], stab [], 0⟩) (Norm.mk [] (by decide) (by decide) (by decide) ⟨.d _, .d _, .d _, trivial⟩ trivial) ?_
            refine NWp.skip ?_
            exact And.intro rfl rfl
      · intro r' hq
        subst hq
        exact Option.some.inj h
      rintro ⟨⟩ rfl
      show NWp _ _ _ _ _ ⟨tab [(0, .d (eL (some 2) eapi_Row a0)), (1, .d (.int .i64 a1)), (6, .d (.int .i64 i13))], stab [], 0⟩
      have hh := Option.some.inj h
      subst hh
      refine NWp.opsE ⟨tab [(0, .d (eL (some 2) eapi_Row a0)), (1, .d (.int .i64 a1)), (6, .d (.int .i64 (i13 + 1)))], stab [], 0⟩ ?_ ?_
      · refine step (v := .d (.int .i64 i13)) rfl ?_
        refine step (v := .d (.int .i64 (i13 + 1))) (st_inc (inc_ok hinv16 hgo15 hB14) rfl rfl) ?_
        refine step (v := .d (.int .i64 (i13 + 1))) rfl ?_
        exact RunOps.nil' (Norm.mk [] (by decide) (by decide) (by decide) ⟨.d _, .d _, .d _, trivial⟩ trivial)
      exact And.intro rfl rfl
    · rintro i13 ⟨⟩ hinv16 hgo15
      show NWp _ _ _ _ _ ⟨tab [(0, .d (eL (some 2) eapi_Row a0)), (1, .d (.int .i64 a1)), (6, .d (.int .i64 i13))], stab [], 0⟩
      have hc17 : ¬ (decide (i13 < (a0.length : Int)) = true) := fun hq => hgo15 (of_decide_eq_true hq)
      refine NWp.seq ?_
      refine NWp.opsJ ⟨tab [(0, .d (eL (some 2) eapi_Row a0)), (1, .d (.int .i64 a1)), (6, .d (.int .i64 i13)), (34, .d (.bool (decide (i13 < (a0.length : Int)))))], stab [], 0⟩ ?_ ?_
      · refine step (v := .d (.int .i64 i13)) rfl ?_
        refine step (v := .d (eL (some 2) eapi_Row a0)) rfl ?_
        refine step (v := .d (.int .i64 (a0.length : Int))) (st_len (xs := a0) (e := eapi_Row) rfl) ?_
        refine step (v := .d (.bool (decide (i13 < (a0.length : Int))))) rfl ?_
        exact RunOps.nil' (Norm.mk [] (by decide) (by decide) (by decide) ⟨.d _, .d _, .d _, .d _, trivial⟩ trivial)
      refine NWp.condF (t := decide (i13 < (a0.length : Int))) rfl hc17 ?_
      refine NWp.norm (s0 := ⟨tab [], stab [], 0⟩) (Norm.mk [] (by decide) (by decide) (by decide) trivial trivial) ?_
      refine NWp.exit ?_
      exact And.intro rfl rfl
    · intro r' hq
      subst hq
      exact Option.some.inj h
    rintro ⟨⟩ rfl
    refine NWp.opsJ ⟨tab [(4, .d (.bool false))], stab [], 0⟩ ?_ ?_
    · refine step (v := .d (.bool false)) rfl ?_
      exact RunOps.nil' (Norm.mk [] (by decide) (by decide) (by decide) ⟨.d _, trivial⟩ trivial)
    have hh := Option.some.inj h
    subst hh
    refine NWp.ret ?_
    show FQ _ _ _ _
    exact FQ.mk1 (.inr rfl) (res_t (v := .d (.bool false)) rfl rfl) (RV.d trivial)


end Go.AM
