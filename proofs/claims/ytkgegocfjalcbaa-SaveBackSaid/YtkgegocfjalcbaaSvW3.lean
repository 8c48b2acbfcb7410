import Derived.Test.YtkgegocfjalcbaaSvW2
/-  What they are in the program: walks. -/
set_option linter.unusedVariables false
set_option linter.unusedSimpArgs false
namespace Go.AM
open Go Go.RowKit Go.Proofs

attribute [local irreducible] RunOps RunOpsL

theorem c_law32_SaveBack {a0 : (List api_Deed)} {r : Bool} (h : law32_SaveBack a0 = some r) : PCall Try.prog 5 [eL (some 12) eapi_Deed a0] (.bool r) := by
  refine PCall.introN ok5 (show 1 ≤ 72 by decide) ?_
  refine NWp.norm (s0 := ⟨tab [(0, .d (eL (some 12) eapi_Deed a0))], stab [], 0⟩) (Norm.mk [] (by decide) (by decide) (by decide) ⟨.d _, trivial⟩ trivial) ?_
  refine NWp.opsJ ⟨tab [(0, .d (eL (some 12) eapi_Deed a0))], stab [], 0⟩ ?_ ?_
  · refine step (v := .d (.bool false)) rfl ?_
    exact RunOps.nil' (Norm.mk [] (by decide) (by decide) (by decide) ⟨.d _, trivial⟩ trivial)
  refine NWp.seq ?_
  obtain ⟨r1, hr1, h⟩ := bindE h
  refine NWp.opsJ ⟨tab [(0, .d (eL (some 12) eapi_Deed a0)), (13, .d (.bool (!r1)))], stab [], 0⟩ ?_ ?_
  · refine stepC (r := .bool r1) ArgsOk.nil' (c_law32_awake hr1) ?_
    refine step (v := .d (.bool (!r1))) rfl ?_
    exact RunOps.nil' (Norm.mk [] (by decide) (by decide) (by decide) ⟨.d _, .d _, trivial⟩ trivial)
  by_cases hc2 : (!r1) = true
  · replace h := iteT hc2 h
    refine NWp.condT (t := (!r1)) rfl hc2 ?_
    refine NWp.opsJ ⟨tab [(2, .d (.bool false))], stab [], 0⟩ ?_ ?_
    · refine step (v := .d (.bool false)) rfl ?_
      exact RunOps.nil' (Norm.mk [] (by decide) (by decide) (by decide) ⟨.d _, trivial⟩ trivial)
    have hh := Option.some.inj h
    subst hh
    refine NWp.ret ?_
    show FQ _ _ _ _
    exact FQ.mk1 (.inr rfl) (res_t (v := .d (.bool false)) rfl rfl) (RV.d trivial)
  · replace h := iteF hc2 h
    refine NWp.condF (t := (!r1)) rfl hc2 ?_
    refine NWp.skip ?_
    refine NWp.seq ?_
    refine NWp.opsJ ⟨tab [(0, .d (eL (some 12) eapi_Deed a0)), (16, .d (.bool (decide ((a0.length : Int) > 100))))], stab [], 0⟩ ?_ ?_
    · refine step (v := .d (eL (some 12) eapi_Deed a0)) rfl ?_
      refine step (v := .d (.int .i64 (a0.length : Int))) (st_len (xs := a0) (e := eapi_Deed) rfl) ?_
      refine step (v := .d (.bool (decide ((a0.length : Int) > 100)))) rfl ?_
      exact RunOps.nil' (Norm.mk [] (by decide) (by decide) (by decide) ⟨.d _, .d _, trivial⟩ trivial)
    by_cases hc3 : decide ((a0.length : Int) > 100) = true
    · replace h := iteT hc3 h
      refine NWp.condT (t := decide ((a0.length : Int) > 100)) rfl hc3 ?_
      refine NWp.opsJ ⟨tab [(2, .d (.bool true))], stab [], 0⟩ ?_ ?_
      · refine step (v := .d (.bool true)) rfl ?_
        exact RunOps.nil' (Norm.mk [] (by decide) (by decide) (by decide) ⟨.d _, trivial⟩ trivial)
      have hh := Option.some.inj h
      subst hh
      refine NWp.ret ?_
      show FQ _ _ _ _
      exact FQ.mk1 (.inr rfl) (res_t (v := .d (.bool true)) rfl rfl) (RV.d trivial)
    · replace h := iteF hc3 h
      refine NWp.condF (t := decide ((a0.length : Int) > 100)) rfl hc3 ?_
      refine NWp.skip ?_
      refine NWp.opsJ ⟨tab [(0, .d (eL (some 12) eapi_Deed a0)), (3, .d (.nils))], stab [], 0⟩ ?_ ?_
      · refine step (v := .d (.nils)) rfl ?_
        exact RunOps.nil' (Norm.mk [] (by decide) (by decide) (by decide) ⟨.d _, .d _, trivial⟩ trivial)
      refine NWp.seq ?_
      refine NWp.opsJ ⟨tab [(0, .d (eL (some 12) eapi_Deed a0)), (3, .d (.nils)), (17, .d (eL (some 12) eapi_Deed a0)), (18, .d (.int .i64 (a0.length : Int))), (19, .d (.int .i64 0))], stab [], 0⟩ ?_ ?_
      · refine step (v := .d (eL (some 12) eapi_Deed a0)) rfl ?_
        refine step (v := .d (.int .i64 (a0.length : Int))) (st_len (xs := a0) (e := eapi_Deed) rfl) ?_
        refine step (v := .d (.int .i64 0)) rfl ?_
        exact RunOps.nil' (Norm.mk [] (by decide) (by decide) (by decide) ⟨.d _, .d _, .d _, .d _, .d _, trivial⟩ trivial)
      obtain ⟨q28, hl, h⟩ := bindE h
      refine NWp.norm (s0 := ⟨tab [(0, .d (eL (some 12) eapi_Deed a0)), (3, .loc 0 0 (([] : List api_Deed).length)), (17, .d (eL (some 12) eapi_Deed a0)), (18, .d (.int .i64 (a0.length : Int))), (19, .d (.int .i64 0))], stab [(0, .lst false (some 12) (List.map eapi_Deed ([] : List api_Deed)))], 1⟩) (Norm.trans (s2 := ⟨tab [(0, .d (eL (some 12) eapi_Deed a0)), (3, .loc 0 0 (([] : List api_Deed).length)), (17, .d (eL (some 12) eapi_Deed a0)), (18, .d (.int .i64 (a0.length : Int))), (19, .d (.int .i64 0))], stab [(0, .lst false (some 12) (List.map eapi_Deed ([] : List api_Deed)))], 1⟩) (Norm.nil1 3 false (some 12) rfl) (Norm.mk [0] (by decide) (by decide) (by decide) ⟨.d _, .loc 0 _ _ (show 0 < 1 by decide), .d _, .d _, .d _, trivial⟩ ⟨⟨show 0 < 1 by decide, _, rfl, .lst _ _ _⟩, trivial⟩)) ?_
      refine NWp.block ?_
      refine loop_forR (cntU (a0.length : Int)) (fun (i5 : Int) (qq : (List api_Deed)) => ⟨tab [(0, .d (eL (some 12) eapi_Deed a0)), (3, .loc 0 0 qq.length), (17, .d (eL (some 12) eapi_Deed a0)), (18, .d (.int .i64 (a0.length : Int))), (19, .d (.int .i64 i5))], stab [(0, .lst false (some 12) (List.map eapi_Deed qq))], 1⟩) 0 (fun (qq : (List api_Deed)) => ⟨tab [(0, .d (eL (some 12) eapi_Deed a0)), (3, .loc 0 0 qq.length)], stab [(0, .lst false (some 12) (List.map eapi_Deed qq))], 1⟩) Low low_step (r := r) hl (by unfold Low; omega) ?_ ?_ ?_ ?_
      · rintro i5 l4 xr10 hinv8 hgo7 h
        show NWp _ _ _ _ _ ⟨tab [(0, .d (eL (some 12) eapi_Deed a0)), (3, .loc 0 0 l4.length), (17, .d (eL (some 12) eapi_Deed a0)), (18, .d (.int .i64 (a0.length : Int))), (19, .d (.int .i64 i5))], stab [(0, .lst false (some 12) (List.map eapi_Deed l4))], 1⟩
        have hc9 : decide (i5 < (a0.length : Int)) = true := decide_eq_true hgo7
        refine NWp.opsJ ⟨tab [(0, .d (eL (some 12) eapi_Deed a0)), (3, .loc 0 0 l4.length), (17, .d (eL (some 12) eapi_Deed a0)), (18, .d (.int .i64 (a0.length : Int))), (19, .d (.int .i64 i5)), (20, .d (.bool (decide (i5 < (a0.length : Int)))))], stab [(0, .lst false (some 12) (List.map eapi_Deed l4))], 1⟩ ?_ ?_
        · refine step (v := .d (.bool (decide (i5 < (a0.length : Int))))) rfl ?_
          exact RunOps.nil' (Norm.mk [0] (by decide) (by decide) (by decide) ⟨.d _, .loc 0 _ _ (show 0 < 1 by decide), .d _, .d _, .d _, .d _, trivial⟩ ⟨⟨show 0 < 1 by decide, _, rfl, .lst _ _ _⟩, trivial⟩)
        refine NWp.rng 18 rfl fun hB6 => ?_
        refine NWp.seq ?_
        refine NWp.condT (t := decide (i5 < (a0.length : Int))) rfl hc9 ?_
        refine NWp.skip ?_
        refine NWp.seq ?_
        refine NWp.block ?_
        obtain ⟨x11, hx11, h⟩ := bindE h
        refine NWp.opsJ ⟨tab [(0, .d (eL (some 12) eapi_Deed a0)), (3, .loc 0 0 l4.length), (5, .ptr 1 0 0), (17, .d (eL (some 12) eapi_Deed a0)), (18, .d (.int .i64 (a0.length : Int))), (19, .d (.int .i64 i5))], stab [(0, .lst false (some 12) (List.map eapi_Deed l4)), (1, .var [.d (.int .i64 x11.What), .d (.int .i64 x11.N), .d (.bool x11.Back), .d (.int .u16 x11.P.a0), .d (.int .u16 x11.P.a1), .d (.int .u16 x11.P.a2), .d (.int .u16 x11.P.a3), .d (.int .u16 x11.P.a4), .d (.int .u16 x11.P.a5), .d (.int .u16 x11.P.a6), .d (.int .u16 x11.P.a7), .d (.str x11.Raw)])], 2⟩ ?_ ?_
        · refine step (v := .d (.cptr (some 12) (eapi_Deed x11) 0)) (st_iaddr (xs := a0) (e := eapi_Deed) hx11 rfl rfl) ?_
          refine step (v := .d (eapi_Deed x11)) rfl ?_
          refine step (v := .ptr 1 0 0) (σ' := (upd (stab [(0, .lst false (some 12) (List.map eapi_Deed l4))]) 1 (some (.var [.d (.int .i64 0), .d (.int .i64 0), .d (.bool false), .d (.int .u16 0), .d (.int .u16 0), .d (.int .u16 0), .d (.int .u16 0), .d (.int .u16 0), .d (.int .u16 0), .d (.int .u16 0), .d (.int .u16 0), .d (.str (⟨#[]⟩ : ByteArray))])))) (n' := 2) rfl ?_
          refine step (v := V.undef) (σ' := (upd (upd (stab [(0, .lst false (some 12) (List.map eapi_Deed l4))]) 1 (some (.var [.d (.int .i64 0), .d (.int .i64 0), .d (.bool false), .d (.int .u16 0), .d (.int .u16 0), .d (.int .u16 0), .d (.int .u16 0), .d (.int .u16 0), .d (.int .u16 0), .d (.int .u16 0), .d (.int .u16 0), .d (.str (⟨#[]⟩ : ByteArray))]))) 1 (some (.var [.d (.int .i64 x11.What), .d (.int .i64 x11.N), .d (.bool x11.Back), .d (.int .u16 x11.P.a0), .d (.int .u16 x11.P.a1), .d (.int .u16 x11.P.a2), .d (.int .u16 x11.P.a3), .d (.int .u16 x11.P.a4), .d (.int .u16 x11.P.a5), .d (.int .u16 x11.P.a6), .d (.int .u16 x11.P.a7), .d (.str x11.Raw)])))) (n' := 2) rfl ?_
          exact RunOps.nil' (Norm.mk [0, 1] (by decide) (by decide) (by decide) ⟨.d _, .loc 0 _ _ (show 0 < 2 by decide), .ptr 1 _ _ (show 1 < 2 by decide), .d _, .d _, .d _, trivial⟩ ⟨⟨show 0 < 2 by decide, _, rfl, .lst _ _ _⟩, ⟨show 1 < 2 by decide, _, rfl, .vars ⟨.d _, .d _, .d _, .d _, .d _, .d _, .d _, .d _, .d _, .d _, .d _, .d _, trivial⟩⟩, trivial⟩)
        refine NWp.seq ?_
        refine NWp.opsJ ⟨tab [(0, .d (eL (some 12) eapi_Deed a0)), (3, .loc 0 0 l4.length), (5, .ptr 1 0 0), (17, .d (eL (some 12) eapi_Deed a0)), (18, .d (.int .i64 (a0.length : Int))), (19, .d (.int .i64 i5)), (26, .d (.bool (decide ((x11.Raw.size : Int) > 1100))))], stab [(0, .lst false (some 12) (List.map eapi_Deed l4)), (1, .var [.d (.int .i64 x11.What), .d (.int .i64 x11.N), .d (.bool x11.Back), .d (.int .u16 x11.P.a0), .d (.int .u16 x11.P.a1), .d (.int .u16 x11.P.a2), .d (.int .u16 x11.P.a3), .d (.int .u16 x11.P.a4), .d (.int .u16 x11.P.a5), .d (.int .u16 x11.P.a6), .d (.int .u16 x11.P.a7), .d (.str x11.Raw)])], 2⟩ ?_ ?_
        · refine step (v := .ptr 1 0 11) rfl ?_
          refine step (v := .d (.str x11.Raw)) rfl ?_
          refine step (v := .d (.int .i64 (x11.Raw.size : Int))) rfl ?_
          refine step (v := .d (.bool (decide ((x11.Raw.size : Int) > 1100)))) rfl ?_
          exact RunOps.nil' (Norm.mk [0, 1] (by decide) (by decide) (by decide) ⟨.d _, .loc 0 _ _ (show 0 < 2 by decide), .ptr 1 _ _ (show 1 < 2 by decide), .d _, .d _, .d _, .d _, trivial⟩ ⟨⟨show 0 < 2 by decide, _, rfl, .lst _ _ _⟩, ⟨show 1 < 2 by decide, _, rfl, .vars ⟨.d _, .d _, .d _, .d _, .d _, .d _, .d _, .d _, .d _, .d _, .d _, .d _, trivial⟩⟩, trivial⟩)
        by_cases hc12 : decide ((x11.Raw.size : Int) > 1100) = true
        · replace h := iteT hc12 h
          refine NWp.condT (t := decide ((x11.Raw.size : Int) > 1100)) rfl hc12 ?_
          refine NWp.opsJ ⟨tab [(2, .d (.bool true))], stab [], 0⟩ ?_ ?_
          · refine step (v := .d (.bool true)) rfl ?_
            exact RunOps.nil' (Norm.mk [] (by decide) (by decide) (by decide) ⟨.d _, trivial⟩ trivial)
          obtain ⟨r13, kr13, hr⟩ := mapE (o := some true) (g := Br.ret) h
          subst hr
          have h := kr13
          have hh := Option.some.inj h
          subst hh
          refine NWp.ret ?_
          refine And.intro (fun hn => nomatch hn) ?_
          intro hq
          have hq := hq.symm
          subst hq
          show FQ _ _ _ _
          exact FQ.mk1 (.inr rfl) (res_t (v := .d (.bool true)) rfl rfl) (RV.d trivial)
        · replace h := iteF hc12 h
          refine NWp.condF (t := decide ((x11.Raw.size : Int) > 1100)) rfl hc12 ?_
          refine NWp.skip ?_
          refine NWp.seq ?_
          obtain ⟨r13, hr13, h⟩ := bindE h
          obtain ⟨r14, hr14, h⟩ := bindE h
          refine NWp.opsJ ⟨tab [(0, .d (eL (some 12) eapi_Deed a0)), (3, .loc 0 0 l4.length), (5, .ptr 1 0 0), (17, .d (eL (some 12) eapi_Deed a0)), (18, .d (.int .i64 (a0.length : Int))), (19, .d (.int .i64 i5)), (31, .d (.bool (!(r13 == r14))))], stab [(0, .lst false (some 12) (List.map eapi_Deed l4)), (1, .var [.d (.int .i64 x11.What), .d (.int .i64 x11.N), .d (.bool x11.Back), .d (.int .u16 x11.P.a0), .d (.int .u16 x11.P.a1), .d (.int .u16 x11.P.a2), .d (.int .u16 x11.P.a3), .d (.int .u16 x11.P.a4), .d (.int .u16 x11.P.a5), .d (.int .u16 x11.P.a6), .d (.int .u16 x11.P.a7), .d (.str x11.Raw)])], 2⟩ ?_ ?_
          · refine step (v := .d (eapi_Deed x11)) (st_ldV (ds := [.int .i64 x11.What, .int .i64 x11.N, .bool x11.Back, .int .u16 x11.P.a0, .int .u16 x11.P.a1, .int .u16 x11.P.a2, .int .u16 x11.P.a3, .int .u16 x11.P.a4, .int .u16 x11.P.a5, .int .u16 x11.P.a6, .int .u16 x11.P.a7, .str x11.Raw]) rfl rfl (show 12 ≤ 12 by decide) rfl) ?_
            refine stepC (r := eapi_Deed r13) (ArgsOk.dt ArgsOk.nil') (c_save_Clean hr13) ?_
            refine step (v := .d (eapi_Deed x11)) (st_ldV (ds := [.int .i64 x11.What, .int .i64 x11.N, .bool x11.Back, .int .u16 x11.P.a0, .int .u16 x11.P.a1, .int .u16 x11.P.a2, .int .u16 x11.P.a3, .int .u16 x11.P.a4, .int .u16 x11.P.a5, .int .u16 x11.P.a6, .int .u16 x11.P.a7, .str x11.Raw]) rfl rfl (show 12 ≤ 12 by decide) rfl) ?_
            refine stepC (r := eapi_Deed r14) (ArgsOk.dt ArgsOk.nil') (c_ref32_Clean hr14) ?_
            refine step (v := .d (.bool (!(r13 == r14)))) (st_eqS (neg := true) rfl rfl (eqS_api_Deed r13 r14)) ?_
            exact RunOps.nil' (Norm.mk [0, 1] (by decide) (by decide) (by decide) ⟨.d _, .loc 0 _ _ (show 0 < 2 by decide), .ptr 1 _ _ (show 1 < 2 by decide), .d _, .d _, .d _, .d _, trivial⟩ ⟨⟨show 0 < 2 by decide, _, rfl, .lst _ _ _⟩, ⟨show 1 < 2 by decide, _, rfl, .vars ⟨.d _, .d _, .d _, .d _, .d _, .d _, .d _, .d _, .d _, .d _, .d _, .d _, trivial⟩⟩, trivial⟩)
          by_cases hc15 : (!(r13 == r14)) = true
          · replace h := iteT hc15 h
            refine NWp.condT (t := (!(r13 == r14))) rfl hc15 ?_
            refine NWp.opsJ ⟨tab [(2, .d (.bool false))], stab [], 0⟩ ?_ ?_
            · refine step (v := .d (.bool false)) rfl ?_
              exact RunOps.nil' (Norm.mk [] (by decide) (by decide) (by decide) ⟨.d _, trivial⟩ trivial)
            obtain ⟨r16, kr16, hr⟩ := mapE (o := some false) (g := Br.ret) h
            subst hr
            have h := kr16
            have hh := Option.some.inj h
            subst hh
            refine NWp.ret ?_
            refine And.intro (fun hn => nomatch hn) ?_
            intro hq
            have hq := hq.symm
            subst hq
            show FQ _ _ _ _
            exact FQ.mk1 (.inr rfl) (res_t (v := .d (.bool false)) rfl rfl) (RV.d trivial)
          · replace h := iteF hc15 h
            refine NWp.condF (t := (!(r13 == r14))) rfl hc15 ?_
            refine NWp.skip ?_
            obtain ⟨l16, hl16, h⟩ := bindE h
            refine NWp.opsE ⟨tab [(0, .d (eL (some 12) eapi_Deed a0)), (3, .loc 0 0 l16.length), (17, .d (eL (some 12) eapi_Deed a0)), (18, .d (.int .i64 (a0.length : Int))), (19, .d (.int .i64 i5))], stab [(0, .lst false (some 12) (List.map eapi_Deed l16))], 1⟩ ?_ ?_
            · refine step (v := .loc 0 0 l4.length) rfl ?_
              refine step (v := .d (eapi_Deed x11)) (st_ldV (ds := [.int .i64 x11.What, .int .i64 x11.N, .bool x11.Back, .int .u16 x11.P.a0, .int .u16 x11.P.a1, .int .u16 x11.P.a2, .int .u16 x11.P.a3, .int .u16 x11.P.a4, .int .u16 x11.P.a5, .int .u16 x11.P.a6, .int .u16 x11.P.a7, .str x11.Raw]) rfl rfl (show 12 ≤ 12 by decide) rfl) ?_
              refine stepC (r := eapi_Deed r14) (ArgsOk.dt ArgsOk.nil') (c_ref32_Clean hr14) ?_
              refine step (v := .d (eL (some 12) eapi_Deed ([r14] : List api_Deed))) rfl ?_
              refine step (v := .loc 2 0 l16.length) (σ' := (upd (upd (stab [(0, .lst false (some 12) (List.map eapi_Deed l4)), (1, .var [.d (.int .i64 x11.What), .d (.int .i64 x11.N), .d (.bool x11.Back), .d (.int .u16 x11.P.a0), .d (.int .u16 x11.P.a1), .d (.int .u16 x11.P.a2), .d (.int .u16 x11.P.a3), .d (.int .u16 x11.P.a4), .d (.int .u16 x11.P.a5), .d (.int .u16 x11.P.a6), .d (.int .u16 x11.P.a7), .d (.str x11.Raw)])]) 0 none) 2 (some (.lst false (some 12) (List.map eapi_Deed l16))))) (n' := 3) (st_app (xs := l4) (ys := ([r14] : List api_Deed)) (e := eapi_Deed) hl16 rfl rfl rfl (src_v (xs := ([r14] : List api_Deed)) (e := eapi_Deed) rfl)) ?_
              refine step (v := .loc 2 0 l16.length) rfl ?_
              exact RunOps.nil' (Norm.mk [2] (by decide) (by decide) (by decide) ⟨.d _, .loc 0 _ _ (show 0 < 1 by decide), .d _, .d _, .d _, trivial⟩ ⟨⟨show 0 < 1 by decide, _, rfl, .lst _ _ _⟩, trivial⟩)
            have hh := Option.some.inj h
            subst hh
            refine NWp.opsE ⟨tab [(0, .d (eL (some 12) eapi_Deed a0)), (3, .loc 0 0 l16.length), (17, .d (eL (some 12) eapi_Deed a0)), (18, .d (.int .i64 (a0.length : Int))), (19, .d (.int .i64 (i5 + 1)))], stab [(0, .lst false (some 12) (List.map eapi_Deed l16))], 1⟩ ?_ ?_
            · refine step (v := .d (.int .i64 (i5 + 1))) (st_inc (inc_ok hinv8 hgo7 hB6) rfl rfl) ?_
              refine step (v := .d (.int .i64 (i5 + 1))) rfl ?_
              exact RunOps.nil' (Norm.mk [0] (by decide) (by decide) (by decide) ⟨.d _, .loc 0 _ _ (show 0 < 1 by decide), .d _, .d _, .d _, trivial⟩ ⟨⟨show 0 < 1 by decide, _, rfl, .lst _ _ _⟩, trivial⟩)
            exact And.intro rfl rfl
      · rintro i5 l4 hinv8 hgo7
        show NWp _ _ _ _ _ ⟨tab [(0, .d (eL (some 12) eapi_Deed a0)), (3, .loc 0 0 l4.length), (17, .d (eL (some 12) eapi_Deed a0)), (18, .d (.int .i64 (a0.length : Int))), (19, .d (.int .i64 i5))], stab [(0, .lst false (some 12) (List.map eapi_Deed l4))], 1⟩
        have hc9 : ¬ (decide (i5 < (a0.length : Int)) = true) := fun hq => hgo7 (of_decide_eq_true hq)
        refine NWp.opsJ ⟨tab [(0, .d (eL (some 12) eapi_Deed a0)), (3, .loc 0 0 l4.length), (17, .d (eL (some 12) eapi_Deed a0)), (18, .d (.int .i64 (a0.length : Int))), (19, .d (.int .i64 i5)), (20, .d (.bool (decide (i5 < (a0.length : Int)))))], stab [(0, .lst false (some 12) (List.map eapi_Deed l4))], 1⟩ ?_ ?_
        · refine step (v := .d (.bool (decide (i5 < (a0.length : Int))))) rfl ?_
          exact RunOps.nil' (Norm.mk [0] (by decide) (by decide) (by decide) ⟨.d _, .loc 0 _ _ (show 0 < 1 by decide), .d _, .d _, .d _, .d _, trivial⟩ ⟨⟨show 0 < 1 by decide, _, rfl, .lst _ _ _⟩, trivial⟩)
        refine NWp.seq ?_
        refine NWp.condF (t := decide (i5 < (a0.length : Int))) rfl hc9 ?_
        refine NWp.norm (s0 := ⟨tab [(0, .d (eL (some 12) eapi_Deed a0)), (3, .loc 0 0 l4.length)], stab [(0, .lst false (some 12) (List.map eapi_Deed l4))], 1⟩) (Norm.mk [0] (by decide) (by decide) (by decide) ⟨.d _, .loc 0 _ _ (show 0 < 1 by decide), trivial⟩ ⟨⟨show 0 < 1 by decide, _, rfl, .lst _ _ _⟩, trivial⟩) ?_
        refine NWp.exit ?_
        exact And.intro rfl rfl
      · intro r' hq
        subst hq
        exact Option.some.inj h
      rintro z17 rfl
      obtain ⟨r18, hr18, h⟩ := bindE h
      refine NWp.opsJ ⟨tab [(0, .d (eL (some 12) eapi_Deed a0)), (3, .loc 0 0 z17.length), (6, .d (.str r18.1)), (7, .d (.int .i64 r18.2))], stab [(0, .lst false (some 12) (List.map eapi_Deed z17))], 1⟩ ?_ ?_
      · refine step (v := .d (eL (some 12) eapi_Deed a0)) rfl ?_
        refine stepC (r := .tup [.str r18.1, .int .i64 r18.2]) (ArgsOk.dt ArgsOk.nil') (c_save_Encode hr18) ?_
        refine step (v := .d (.tup [.str r18.1, .int .i64 r18.2])) rfl ?_
        refine step (v := .d (.str r18.1)) rfl ?_
        refine step (v := .d (.int .i64 r18.2)) rfl ?_
        refine step (v := .d (.str r18.1)) rfl ?_
        refine step (v := .d (.int .i64 r18.2)) rfl ?_
        exact RunOps.nil' (Norm.mk [0] (by decide) (by decide) (by decide) ⟨.d _, .loc 0 _ _ (show 0 < 1 by decide), .d _, .d _, trivial⟩ ⟨⟨show 0 < 1 by decide, _, rfl, .lst _ _ _⟩, trivial⟩)
      obtain ⟨r19, hr19, h⟩ := bindE h
      refine NWp.opsJ ⟨tab [(3, .loc 0 0 z17.length), (6, .d (.str r18.1)), (7, .d (.int .i64 r18.2)), (8, .d (.str r19.1)), (9, .d (.int .i64 r19.2))], stab [(0, .lst false (some 12) (List.map eapi_Deed z17))], 1⟩ ?_ ?_
      · refine step (v := .d (eL (some 12) eapi_Deed a0)) rfl ?_
        refine stepC (r := .tup [.str r19.1, .int .i64 r19.2]) (ArgsOk.dt ArgsOk.nil') (c_ref32_Encode hr19) ?_
        refine step (v := .d (.tup [.str r19.1, .int .i64 r19.2])) rfl ?_
        refine step (v := .d (.str r19.1)) rfl ?_
        refine step (v := .d (.int .i64 r19.2)) rfl ?_
        refine step (v := .d (.str r19.1)) rfl ?_
        refine step (v := .d (.int .i64 r19.2)) rfl ?_
        exact RunOps.nil' (Norm.mk [0] (by decide) (by decide) (by decide) ⟨.loc 0 _ _ (show 0 < 1 by decide), .d _, .d _, .d _, .d _, trivial⟩ ⟨⟨show 0 < 1 by decide, _, rfl, .lst _ _ _⟩, trivial⟩)
      refine NWp.seq ?_
      refine NWp.opsJ ⟨tab [(3, .loc 0 0 z17.length), (6, .d (.str r18.1)), (7, .d (.int .i64 r18.2)), (55, .d (.bool ((r18.2 != r19.2) || (!(seqB r18.1 r19.1)))))], stab [(0, .lst false (some 12) (List.map eapi_Deed z17))], 1⟩ ?_ ?_
      · refine step (v := .d (.int .i64 r18.2)) rfl ?_
        refine step (v := .d (.int .i64 r19.2)) rfl ?_
        refine step (v := .d (.bool (r18.2 != r19.2))) rfl ?_
        refine step (v := .d (.bool (r18.2 != r19.2))) rfl ?_
        by_cases hg20 : (r18.2 != r19.2) = true
        · refine stepX (c := (r18.2 != r19.2)) rfl (by rw [hg20]; decide) ?_
          refine stepX (c := (r18.2 != r19.2)) rfl (by rw [hg20]; decide) ?_
          refine stepX (c := (r18.2 != r19.2)) rfl (by rw [hg20]; decide) ?_
          refine step (v := .d (.bool true)) (st_pickT (b := (r18.2 != r19.2)) rfl hg20 rfl) ?_
          exact RunOps.nil' (Norm.mk [0] (by decide) (by decide) (by decide) ⟨.loc 0 _ _ (show 0 < 1 by decide), .d _, .d _, .eq (by simp [hg20]), trivial⟩ ⟨⟨show 0 < 1 by decide, _, rfl, .lst _ _ _⟩, trivial⟩)
        · refine stepG (c := (r18.2 != r19.2)) rfl (Bool.eq_false_iff.2 hg20) ?_
          refine step (v := .d (.str r18.1)) rfl ?_
          refine stepG (c := (r18.2 != r19.2)) rfl (Bool.eq_false_iff.2 hg20) ?_
          refine step (v := .d (.str r19.1)) rfl ?_
          refine stepG (c := (r18.2 != r19.2)) rfl (Bool.eq_false_iff.2 hg20) ?_
          refine step (v := .d (.bool (!(seqB r18.1 r19.1)))) rfl ?_
          refine step (v := .d (.bool (!(seqB r18.1 r19.1)))) (st_pickF (b := (r18.2 != r19.2)) rfl hg20 rfl) ?_
          exact RunOps.nil' (Norm.mk [0] (by decide) (by decide) (by decide) ⟨.loc 0 _ _ (show 0 < 1 by decide), .d _, .d _, .eq (by simp [hg20]), trivial⟩ ⟨⟨show 0 < 1 by decide, _, rfl, .lst _ _ _⟩, trivial⟩)
      by_cases hc21 : ((r18.2 != r19.2) || (!(seqB r18.1 r19.1))) = true
      · replace h := iteT hc21 h
        refine NWp.condT (t := ((r18.2 != r19.2) || (!(seqB r18.1 r19.1)))) rfl hc21 ?_
        refine NWp.opsJ ⟨tab [(2, .d (.bool false))], stab [], 0⟩ ?_ ?_
        · refine step (v := .d (.bool false)) rfl ?_
          exact RunOps.nil' (Norm.mk [] (by decide) (by decide) (by decide) ⟨.d _, trivial⟩ trivial)
        have hh := Option.some.inj h
        subst hh
        refine NWp.ret ?_
        show FQ _ _ _ _
        exact FQ.mk1 (.inr rfl) (res_t (v := .d (.bool false)) rfl rfl) (RV.d trivial)
      · replace h := iteF hc21 h
        refine NWp.condF (t := ((r18.2 != r19.2) || (!(seqB r18.1 r19.1)))) rfl hc21 ?_
        refine NWp.skip ?_
        refine NWp.seq ?_
        refine NWp.opsJ ⟨tab [(3, .loc 0 0 z17.length), (6, .d (.str r18.1)), (57, .d (.bool (r18.2 != 0)))], stab [(0, .lst false (some 12) (List.map eapi_Deed z17))], 1⟩ ?_ ?_
        · refine step (v := .d (.int .i64 r18.2)) rfl ?_
          refine step (v := .d (.bool (r18.2 != 0))) rfl ?_
          exact RunOps.nil' (Norm.mk [0] (by decide) (by decide) (by decide) ⟨.loc 0 _ _ (show 0 < 1 by decide), .d _, .d _, trivial⟩ ⟨⟨show 0 < 1 by decide, _, rfl, .lst _ _ _⟩, trivial⟩)
        by_cases hc22 : (r18.2 != 0) = true
        · replace h := iteT hc22 h
          refine NWp.condT (t := (r18.2 != 0)) rfl hc22 ?_
          refine NWp.opsJ ⟨tab [(2, .d (.bool (seqB r18.1 (⟨#[]⟩ : ByteArray))))], stab [], 0⟩ ?_ ?_
          · refine step (v := .d (.str r18.1)) rfl ?_
            refine step (v := .d (.bool (seqB r18.1 (⟨#[]⟩ : ByteArray)))) rfl ?_
            refine step (v := .d (.bool (seqB r18.1 (⟨#[]⟩ : ByteArray)))) rfl ?_
            exact RunOps.nil' (Norm.mk [] (by decide) (by decide) (by decide) ⟨.d _, trivial⟩ trivial)
          have hh := Option.some.inj h
          subst hh
          refine NWp.ret ?_
          show FQ _ _ _ _
          exact FQ.mk1 (.inr rfl) (res_t (v := .d (.bool (seqB r18.1 (⟨#[]⟩ : ByteArray)))) rfl rfl) (RV.d trivial)
        · replace h := iteF hc22 h
          refine NWp.condF (t := (r18.2 != 0)) rfl hc22 ?_
          refine NWp.skip ?_
          obtain ⟨r23, hr23, h⟩ := bindE h
          refine NWp.opsJ ⟨tab [(3, .loc 0 0 z17.length), (10, .d (eL (some 12) eapi_Deed r23.1)), (11, .d (.int .i64 r23.2))], stab [(0, .lst false (some 12) (List.map eapi_Deed z17))], 1⟩ ?_ ?_
          · refine step (v := .d (.str r18.1)) rfl ?_
            refine stepC (r := .tup [eL (some 12) eapi_Deed r23.1, .int .i64 r23.2]) (ArgsOk.dt ArgsOk.nil') (c_save_Decode hr23) ?_
            refine step (v := .d (.tup [eL (some 12) eapi_Deed r23.1, .int .i64 r23.2])) rfl ?_
            refine step (v := .d (eL (some 12) eapi_Deed r23.1)) rfl ?_
            refine step (v := .d (.int .i64 r23.2)) rfl ?_
            refine step (v := .d (eL (some 12) eapi_Deed r23.1)) rfl ?_
            refine step (v := .d (.int .i64 r23.2)) rfl ?_
            exact RunOps.nil' (Norm.mk [0] (by decide) (by decide) (by decide) ⟨.loc 0 _ _ (show 0 < 1 by decide), .d _, .d _, trivial⟩ ⟨⟨show 0 < 1 by decide, _, rfl, .lst _ _ _⟩, trivial⟩)
          obtain ⟨y26, hv, h⟩ := bindE h
          refine NWp.opsJ ⟨tab [(2, .d (.bool y26))], stab [], 0⟩ ?_ ?_
          · refine step (v := .d (.int .i64 r23.2)) rfl ?_
            refine step (v := .d (.bool (r23.2 == 0))) rfl ?_
            refine step (v := .d (.bool (r23.2 == 0))) rfl ?_
            by_cases hg24 : (r23.2 == 0) = true
            · replace hv := iteT hg24 hv
              obtain ⟨r25, hr25, hv⟩ := bindE hv
              refine stepG (c := (r23.2 == 0)) rfl hg24 ?_
              refine step (v := .d (eL (some 12) eapi_Deed r23.1)) rfl ?_
              refine stepG (c := (r23.2 == 0)) rfl hg24 ?_
              refine step (v := .loc 0 0 z17.length) rfl ?_
              refine stepG (c := (r23.2 == 0)) rfl hg24 ?_
              refine stepC (r := .bool r25) (ArgsOk.dt (ArgsOk.lcm (xs := z17) (e := eapi_Deed) rfl rfl ArgsOk.nil')) (c_ref32_Same hr25) ?_
              refine step (v := .d (.bool r25)) (st_pickT (b := (r23.2 == 0)) rfl hg24 rfl) ?_
              refine step (v := .d (.bool r25)) rfl ?_
              have hh := Option.some.inj hv
              subst hh
              exact RunOps.nil' (Norm.mk [] (by decide) (by decide) (by decide) ⟨.d _, trivial⟩ trivial)
            · replace hv := iteF hg24 hv
              refine stepX (c := (r23.2 == 0)) rfl hg24 ?_
              refine stepX (c := (r23.2 == 0)) rfl hg24 ?_
              refine stepX (c := (r23.2 == 0)) rfl hg24 ?_
              refine step (v := .d (.bool false)) (st_pickF (b := (r23.2 == 0)) rfl hg24 rfl) ?_
              refine step (v := .d (.bool false)) rfl ?_
              have hh := Option.some.inj hv
              subst hh
              exact RunOps.nil' (Norm.mk [] (by decide) (by decide) (by decide) ⟨.d _, trivial⟩ trivial)
          have hh := Option.some.inj h
          subst hh
          refine NWp.ret ?_
          show FQ _ _ _ _
          exact FQ.mk1 (.inr rfl) (res_t (v := .d (.bool y26)) rfl rfl) (RV.d trivial)


end Go.AM
