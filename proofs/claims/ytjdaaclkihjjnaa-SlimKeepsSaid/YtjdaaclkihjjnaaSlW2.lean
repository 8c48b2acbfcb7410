import Derived.Test.YtjdaaclkihjjnaaSlW1
/-  What they are in the program: walks. -/
set_option linter.unusedVariables false
set_option linter.unusedSimpArgs false
namespace Go.AM
open Go Go.RowKit Go.Proofs

attribute [local irreducible] RunOps RunOpsL

theorem c_ref26_Slim_s {self : (List api_Row) → Option (List api_Row)} (hself : ∀ (a0 : (List api_Row)) (r : (List api_Row)), self a0 = some r → PCall Try.prog 39 [eL (some 2) eapi_Row a0] (eL (some 2) eapi_Row r)) {a0 : (List api_Row)} {r : (List api_Row)} (h : ref26_Slim_s self a0 = some r) : PCall Try.prog 39 [eL (some 2) eapi_Row a0] (eL (some 2) eapi_Row r) := by
  refine PCall.introN ok39 (show 1 ≤ 28 by decide) ?_
  refine NWp.norm (s0 := ⟨tab [(0, .d (eL (some 2) eapi_Row a0))], stab [], 0⟩) (Norm.mk [] (by decide) (by decide) (by decide) ⟨.d _, trivial⟩ trivial) ?_
  refine NWp.opsJ ⟨tab [(0, .d (eL (some 2) eapi_Row a0))], stab [], 0⟩ ?_ ?_
  · refine step (v := .d (eL (some 2) eapi_Row ([] : List api_Row))) rfl ?_
    exact RunOps.nil' (Norm.mk [] (by decide) (by decide) (by decide) ⟨.d _, trivial⟩ trivial)
  refine NWp.seq ?_
  refine NWp.opsJ ⟨tab [(0, .d (eL (some 2) eapi_Row a0)), (3, .d (.int .i64 (IntKind.i64.wrap ((a0.length : Int) - 1))))], stab [], 0⟩ ?_ ?_
  · refine step (v := .d (eL (some 2) eapi_Row a0)) rfl ?_
    refine step (v := .d (.int .i64 (a0.length : Int))) (st_len (xs := a0) (e := eapi_Row) rfl) ?_
    refine step (v := .d (.int .i64 (IntKind.i64.wrap ((a0.length : Int) - 1)))) rfl ?_
    refine step (v := .d (.int .i64 (IntKind.i64.wrap ((a0.length : Int) - 1)))) rfl ?_
    exact RunOps.nil' (Norm.mk [] (by decide) (by decide) (by decide) ⟨.d _, .d _, trivial⟩ trivial)
  obtain ⟨q14, hl, h⟩ := bindE h
  refine NWp.rng 3 rfl fun hA15 => ?_
  refine NWp.block ?_
  refine loop_forR (cntD (-1)) (fun (i1 : Int) (qq : Unit) => ⟨tab [(0, .d (eL (some 2) eapi_Row a0)), (3, .d (.int .i64 i1))], stab [], 0⟩) 0 (fun (qq : Unit) => ⟨tab [(0, .d (eL (some 2) eapi_Row a0))], stab [], 0⟩) (fun i => IntKind.i64.wrap i = i) (fun i hi hg => dec_ok hg (by decide) hi) (r := r) hl hA15 ?_ ?_ ?_ ?_
  · rintro i1 ⟨⟩ xr6 hinv4 hgo3 h
    show NWp _ _ _ _ _ ⟨tab [(0, .d (eL (some 2) eapi_Row a0)), (3, .d (.int .i64 i1))], stab [], 0⟩
    have hc5 : decide (i1 ≥ 0) = true := decide_eq_true (by omega)
    refine NWp.seq ?_
    refine NWp.opsJ ⟨tab [(0, .d (eL (some 2) eapi_Row a0)), (3, .d (.int .i64 i1)), (9, .d (.bool (decide (i1 ≥ 0))))], stab [], 0⟩ ?_ ?_
    · refine step (v := .d (.int .i64 i1)) rfl ?_
      refine step (v := .d (.bool (decide (i1 ≥ 0)))) rfl ?_
      exact RunOps.nil' (Norm.mk [] (by decide) (by decide) (by decide) ⟨.d _, .d _, .d _, trivial⟩ trivial)
    refine NWp.condT (t := decide (i1 ≥ 0)) rfl hc5 ?_
    refine NWp.skip ?_
    refine NWp.seq ?_
    refine NWp.block ?_
    obtain ⟨r7, hr7, h⟩ := bindE h
    refine NWp.opsJ ⟨tab [(0, .d (eL (some 2) eapi_Row a0)), (3, .d (.int .i64 i1)), (14, .d (.bool r7))], stab [], 0⟩ ?_ ?_
    · refine step (v := .d (eL (some 2) eapi_Row a0)) rfl ?_
      refine step (v := .d (.int .i64 i1)) rfl ?_
      refine stepC (r := .bool r7) (ArgsOk.dt (ArgsOk.dt ArgsOk.nil')) (c_ref26_Idle hr7) ?_
      exact RunOps.nil' (Norm.mk [] (by decide) (by decide) (by decide) ⟨.d _, .d _, .d _, trivial⟩ trivial)
    by_cases hc8 : r7 = true
    · replace h := iteT hc8 h
      refine NWp.condT (t := r7) rfl hc8 ?_
      refine NWp.opsJ ⟨tab [(0, .d (eL (some 2) eapi_Row a0)), (3, .d (.int .i64 i1)), (4, .d (.nils))], stab [], 0⟩ ?_ ?_
      · refine step (v := .d (.nils)) rfl ?_
        exact RunOps.nil' (Norm.mk [] (by decide) (by decide) (by decide) ⟨.d _, .d _, .d _, trivial⟩ trivial)
      obtain ⟨l9, hl9, h⟩ := bindE h
      obtain ⟨l10, hl10, h⟩ := bindE h
      refine NWp.opsJ ⟨tab [(0, .d (eL (some 2) eapi_Row a0)), (3, .d (.int .i64 i1)), (4, .loc 0 0 l10.length)], stab [(0, .lst false (some 2) (List.map eapi_Row l10))], 1⟩ ?_ ?_
      · refine step (v := .d (.nils)) rfl ?_
        refine step (v := .d (eL (some 2) eapi_Row a0)) rfl ?_
        refine step (v := .d (.int .i64 i1)) rfl ?_
        refine step (v := .d (eL (some 2) eapi_Row l9)) (st_slc (xs := a0) (e := eapi_Row) hl9 rfl rfl ⟨_, rfl⟩) ?_
        refine step (v := .loc 0 0 l10.length) (σ' := (upd (stab []) 0 (some (.lst false (some 2) (List.map eapi_Row l10))))) (n' := 1) (st_appN (ys := l9) (e := eapi_Row) hl10 rfl (src_v (xs := l9) (e := eapi_Row) rfl)) ?_
        refine step (v := .loc 0 0 l10.length) rfl ?_
        exact RunOps.nil' (Norm.mk [0] (by decide) (by decide) (by decide) ⟨.d _, .d _, .loc 0 _ _ (show 0 < 1 by decide), trivial⟩ ⟨⟨show 0 < 1 by decide, _, rfl, .lst _ _ _⟩, trivial⟩)
      obtain ⟨l11, hl11, h⟩ := bindE h
      obtain ⟨l12, hl12, h⟩ := bindE h
      obtain ⟨r13, hr13, h⟩ := bindE h
      refine NWp.opsJ ⟨tab [(2, .d (eL (some 2) eapi_Row r13))], stab [], 0⟩ ?_ ?_
      · refine step (v := .loc 0 0 l10.length) rfl ?_
        refine step (v := .d (eL (some 2) eapi_Row a0)) rfl ?_
        refine step (v := .d (.int .i64 i1)) rfl ?_
        refine step (v := .d (.int .i64 (IntKind.i64.wrap (i1 + 1)))) rfl ?_
        refine step (v := .d (eL (some 2) eapi_Row l11)) (st_slc (xs := a0) (e := eapi_Row) hl11 rfl ⟨_, rfl⟩ rfl) ?_
        refine step (v := .loc 1 0 l12.length) (σ' := (upd (upd (stab [(0, .lst false (some 2) (List.map eapi_Row l10))]) 0 none) 1 (some (.lst false (some 2) (List.map eapi_Row l12))))) (n' := 2) (st_app (xs := l10) (ys := l11) (e := eapi_Row) hl12 rfl rfl rfl (src_v (xs := l11) (e := eapi_Row) rfl)) ?_
        refine stepC (r := eL (some 2) eapi_Row r13) (ArgsOk.lcm (xs := l12) (e := eapi_Row) rfl rfl ArgsOk.nil') (hself _ _ hr13) ?_
        refine step (v := .d (eL (some 2) eapi_Row r13)) rfl ?_
        exact RunOps.nil' (Norm.mk [] (by decide) (by decide) (by decide) ⟨.d _, trivial⟩ trivial)
      obtain ⟨r14, kr14, hr⟩ := mapE (o := some r13) (g := Br.ret) h
      subst hr
      have h := kr14
      have hh := Option.some.inj h
      subst hh
      refine NWp.ret ?_
      refine And.intro (fun hn => nomatch hn) ?_
      intro hq
      have hq := hq.symm
      subst hq
      show FQ _ _ _ _
      exact FQ.mk1 (.inr rfl) (res_t (v := .d (eL (some 2) eapi_Row r13)) rfl rfl) (RV.d trivial)
    · replace h := iteF hc8 h
      refine NWp.condF (t := r7) rfl hc8 ?_
      refine NWp.skip ?_
      have hh := Option.some.inj h
      subst hh
      refine NWp.opsE ⟨tab [(0, .d (eL (some 2) eapi_Row a0)), (3, .d (.int .i64 (i1 - 1)))], stab [], 0⟩ ?_ ?_
      · refine step (v := .d (.int .i64 i1)) rfl ?_
        refine step (v := .d (.int .i64 (i1 - 1))) (st_dec (dec_ok hgo3 (by decide) hinv4) rfl rfl) ?_
        refine step (v := .d (.int .i64 (i1 - 1))) rfl ?_
        exact RunOps.nil' (Norm.mk [] (by decide) (by decide) (by decide) ⟨.d _, .d _, trivial⟩ trivial)
      exact And.intro rfl rfl
  · rintro i1 ⟨⟩ hinv4 hgo3
    show NWp _ _ _ _ _ ⟨tab [(0, .d (eL (some 2) eapi_Row a0)), (3, .d (.int .i64 i1))], stab [], 0⟩
    have hc5 : ¬ (decide (i1 ≥ 0) = true) := fun hq => hgo3 (by have := of_decide_eq_true hq; omega)
    refine NWp.seq ?_
    refine NWp.opsJ ⟨tab [(0, .d (eL (some 2) eapi_Row a0)), (3, .d (.int .i64 i1)), (9, .d (.bool (decide (i1 ≥ 0))))], stab [], 0⟩ ?_ ?_
    · refine step (v := .d (.int .i64 i1)) rfl ?_
      refine step (v := .d (.bool (decide (i1 ≥ 0)))) rfl ?_
      exact RunOps.nil' (Norm.mk [] (by decide) (by decide) (by decide) ⟨.d _, .d _, .d _, trivial⟩ trivial)
    refine NWp.condF (t := decide (i1 ≥ 0)) rfl hc5 ?_
    refine NWp.norm (s0 := ⟨tab [(0, .d (eL (some 2) eapi_Row a0))], stab [], 0⟩) (Norm.mk [] (by decide) (by decide) (by decide) ⟨.d _, trivial⟩ trivial) ?_
    refine NWp.exit ?_
    exact And.intro rfl rfl
  · intro r' hq
    subst hq
    exact Option.some.inj h
  rintro ⟨⟩ rfl
  refine NWp.opsJ ⟨tab [(2, .d (eL (some 2) eapi_Row a0))], stab [], 0⟩ ?_ ?_
  · refine step (v := .d (eL (some 2) eapi_Row a0)) rfl ?_
    refine step (v := .d (eL (some 2) eapi_Row a0)) rfl ?_
    exact RunOps.nil' (Norm.mk [] (by decide) (by decide) (by decide) ⟨.d _, trivial⟩ trivial)
  have hh := Option.some.inj h
  subst hh
  refine NWp.ret ?_
  show FQ _ _ _ _
  exact FQ.mk1 (.inr rfl) (res_t (v := .d (eL (some 2) eapi_Row a0)) rfl rfl) (RV.d trivial)

theorem c_ref26_Slim_f : ∀ (k : Nat) (a0 : (List api_Row)) (r : (List api_Row)), ref26_Slim_f k a0 = some r → PCall Try.prog 39 [eL (some 2) eapi_Row a0] (eL (some 2) eapi_Row r)
  | 0, _, _, h => by cases h
  | k + 1, _, _, h => c_ref26_Slim_s (c_ref26_Slim_f k) h

theorem c_ref26_Slim {a0 : (List api_Row)} {r : (List api_Row)} (h : ref26_Slim a0 = some r) : PCall Try.prog 39 [eL (some 2) eapi_Row a0] (eL (some 2) eapi_Row r) := c_ref26_Slim_f FUEL _ _ h

theorem c_law26_SlimTells {a0 : (List api_Row)} {r : Bool} (h : law26_SlimTells a0 = some r) : PCall Try.prog 9 [eL (some 2) eapi_Row a0] (.bool r) := by
  refine PCall.introN ok9 (show 1 ≤ 62 by decide) ?_
  refine NWp.norm (s0 := ⟨tab [(0, .d (eL (some 2) eapi_Row a0))], stab [], 0⟩) (Norm.mk [] (by decide) (by decide) (by decide) ⟨.d _, trivial⟩ trivial) ?_
  refine NWp.opsJ ⟨tab [(0, .d (eL (some 2) eapi_Row a0))], stab [], 0⟩ ?_ ?_
  · refine step (v := .d (.bool false)) rfl ?_
    exact RunOps.nil' (Norm.mk [] (by decide) (by decide) (by decide) ⟨.d _, trivial⟩ trivial)
  refine NWp.seq ?_
  obtain ⟨r1, hr1, h⟩ := bindE h
  refine NWp.opsJ ⟨tab [(0, .d (eL (some 2) eapi_Row a0)), (9, .d (.bool (!r1)))], stab [], 0⟩ ?_ ?_
  · refine stepC (r := .bool r1) ArgsOk.nil' (c_law26_awake hr1) ?_
    refine step (v := .d (.bool (!r1))) rfl ?_
    exact RunOps.nil' (Norm.mk [] (by decide) (by decide) (by decide) ⟨.d _, .d _, trivial⟩ trivial)
  by_cases hc2 : (!r1) = true
  · replace h := iteT hc2 h
    refine NWp.condT (t := (!r1)) rfl hc2 ?_
    refine NWp.opsJ ⟨tab [(2, .d (.bool false))], stab [], 0⟩ ?_ ?_
    · refine step (v := .d (.bool false)) rfl ?_
      exact RunOps.nil' (Norm.mk [] (by decide) (by decide) (by decide) ⟨.d _, trivial⟩ trivial)
    have hh := Option.some.inj h
    subst hh
    refine NWp.ret ?_
    show FQ _ _ _ _
    exact FQ.mk1 (.inr rfl) (res_t (v := .d (.bool false)) rfl rfl) (RV.d trivial)
  · replace h := iteF hc2 h
    refine NWp.condF (t := (!r1)) rfl hc2 ?_
    refine NWp.skip ?_
    refine NWp.seq ?_
    obtain ⟨y7, hv, h⟩ := bindE h
    refine NWp.opsJ ⟨tab [(0, .d (eL (some 2) eapi_Row a0)), (22, .d (.bool y7))], stab [], 0⟩ ?_ ?_
    · refine step (v := .d (eL (some 2) eapi_Row a0)) rfl ?_
      refine step (v := .d (.int .i64 (a0.length : Int))) (st_len (xs := a0) (e := eapi_Row) rfl) ?_
      refine step (v := .d (.bool (decide ((a0.length : Int) > 14)))) rfl ?_
      refine step (v := .d (.bool (decide ((a0.length : Int) > 14)))) rfl ?_
      by_cases hg3 : decide ((a0.length : Int) > 14) = true
      · replace hv := iteT hg3 hv
        refine stepX (c := decide ((a0.length : Int) > 14)) rfl (by rw [hg3]; decide) ?_
        refine stepX (c := decide ((a0.length : Int) > 14)) rfl (by rw [hg3]; decide) ?_
        refine stepX (c := decide ((a0.length : Int) > 14)) rfl (by rw [hg3]; decide) ?_
        refine step (v := .d (.bool true)) (st_pickT (b := decide ((a0.length : Int) > 14)) rfl hg3 rfl) ?_
        refine step (v := .d (.bool true)) rfl ?_
        refine stepX (c := true) rfl (by decide) ?_
        refine stepX (c := true) rfl (by decide) ?_
        refine stepX (c := true) rfl (by decide) ?_
        refine step (v := .d (.bool true)) (st_pickT (b := true) rfl rfl rfl) ?_
        have hh := Option.some.inj hv
        subst hh
        exact RunOps.nil' (Norm.mk [] (by decide) (by decide) (by decide) ⟨.d _, .d _, trivial⟩ trivial)
      · replace hv := iteF hg3 hv
        obtain ⟨r4, hr4, hv⟩ := bindE hv
        refine stepG (c := decide ((a0.length : Int) > 14)) rfl (Bool.eq_false_iff.2 hg3) ?_
        refine step (v := .d (eL (some 2) eapi_Row a0)) rfl ?_
        refine stepG (c := decide ((a0.length : Int) > 14)) rfl (Bool.eq_false_iff.2 hg3) ?_
        refine stepC (r := .bool r4) (ArgsOk.dt ArgsOk.nil') (c_law09_Few hr4) ?_
        refine stepG (c := decide ((a0.length : Int) > 14)) rfl (Bool.eq_false_iff.2 hg3) ?_
        refine step (v := .d (.bool (!r4))) rfl ?_
        refine step (v := .d (.bool (!r4))) (st_pickF (b := decide ((a0.length : Int) > 14)) rfl hg3 rfl) ?_
        refine step (v := .d (.bool (!r4))) rfl ?_
        by_cases hg5 : (!r4) = true
        · replace hv := iteT hg5 hv
          refine stepX (c := (!r4)) rfl (by rw [hg5]; decide) ?_
          refine stepX (c := (!r4)) rfl (by rw [hg5]; decide) ?_
          refine stepX (c := (!r4)) rfl (by rw [hg5]; decide) ?_
          refine step (v := .d (.bool true)) (st_pickT (b := (!r4)) rfl hg5 rfl) ?_
          have hh := Option.some.inj hv
          subst hh
          exact RunOps.nil' (Norm.mk [] (by decide) (by decide) (by decide) ⟨.d _, .d _, trivial⟩ trivial)
        · replace hv := iteF hg5 hv
          obtain ⟨r6, hr6, hv⟩ := bindE hv
          refine stepG (c := (!r4)) rfl (Bool.eq_false_iff.2 hg5) ?_
          refine step (v := .d (eL (some 2) eapi_Row a0)) rfl ?_
          refine stepG (c := (!r4)) rfl (Bool.eq_false_iff.2 hg5) ?_
          refine stepC (r := .bool r6) (ArgsOk.dt ArgsOk.nil') (c_ref09_Right hr6) ?_
          refine stepG (c := (!r4)) rfl (Bool.eq_false_iff.2 hg5) ?_
          refine step (v := .d (.bool (!r6))) rfl ?_
          refine step (v := .d (.bool (!r6))) (st_pickF (b := (!r4)) rfl hg5 rfl) ?_
          have hh := Option.some.inj hv
          subst hh
          exact RunOps.nil' (Norm.mk [] (by decide) (by decide) (by decide) ⟨.d _, .d _, trivial⟩ trivial)
    by_cases hc9 : y7 = true
    · replace h := iteT hc9 h
      refine NWp.condT (t := y7) rfl hc9 ?_
      refine NWp.opsJ ⟨tab [(2, .d (.bool true))], stab [], 0⟩ ?_ ?_
      · refine step (v := .d (.bool true)) rfl ?_
        exact RunOps.nil' (Norm.mk [] (by decide) (by decide) (by decide) ⟨.d _, trivial⟩ trivial)
      have hh := Option.some.inj h
      subst hh
      refine NWp.ret ?_
      show FQ _ _ _ _
      exact FQ.mk1 (.inr rfl) (res_t (v := .d (.bool true)) rfl rfl) (RV.d trivial)
    · replace h := iteF hc9 h
      refine NWp.condF (t := y7) rfl hc9 ?_
      refine NWp.skip ?_
      refine NWp.seq ?_
      refine NWp.opsJ ⟨tab [(0, .d (eL (some 2) eapi_Row a0)), (3, .d (.int .i64 (-1)))], stab [], 0⟩ ?_ ?_
      · refine step (v := .d (.int .i64 (-1))) rfl ?_
        exact RunOps.nil' (Norm.mk [] (by decide) (by decide) (by decide) ⟨.d _, .d _, trivial⟩ trivial)
      obtain ⟨q39, hl, h⟩ := bindE h
      refine NWp.block ?_
      refine loop_whR (fun (qq : Int) => ⟨tab [(0, .d (eL (some 2) eapi_Row a0)), (3, .d (.int .i64 qq))], stab [], 0⟩) 0 (fun (qq : Int) => ⟨tab [(0, .d (eL (some 2) eapi_Row a0))], stab [], 0⟩) (r := r) hl ?_ ?_ ?_
      · rintro i10 xr11 h
        show NWp _ _ _ _ _ ⟨tab [(0, .d (eL (some 2) eapi_Row a0)), (3, .d (.int .i64 i10))], stab [], 0⟩
        refine NWp.seq ?_
        refine NWp.opsJ ⟨tab [(0, .d (eL (some 2) eapi_Row a0)), (3, .d (.int .i64 i10)), (26, .d (.bool (decide (i10 ≤ (a0.length : Int)))))], stab [], 0⟩ ?_ ?_
        · refine step (v := .d (.int .i64 i10)) rfl ?_
          refine step (v := .d (eL (some 2) eapi_Row a0)) rfl ?_
          refine step (v := .d (.int .i64 (a0.length : Int))) (st_len (xs := a0) (e := eapi_Row) rfl) ?_
          refine step (v := .d (.bool (decide (i10 ≤ (a0.length : Int))))) rfl ?_
          exact RunOps.nil' (Norm.mk [] (by decide) (by decide) (by decide) ⟨.d _, .d _, .d _, trivial⟩ trivial)
        by_cases hc12 : decide (i10 ≤ (a0.length : Int)) = true
        · replace h := iteT hc12 h
          refine NWp.condT (t := decide (i10 ≤ (a0.length : Int))) rfl hc12 ?_
          refine NWp.skip ?_
          refine NWp.seq ?_
          refine NWp.block ?_
          obtain ⟨r13, hr13, h⟩ := bindE h
          obtain ⟨r14, hr14, h⟩ := bindE h
          refine NWp.opsJ ⟨tab [(0, .d (eL (some 2) eapi_Row a0)), (3, .d (.int .i64 i10)), (35, .d (.bool (!(r13 == r14))))], stab [], 0⟩ ?_ ?_
          · refine step (v := .d (eL (some 2) eapi_Row a0)) rfl ?_
            refine step (v := .d (.int .i64 i10)) rfl ?_
            refine stepC (r := .bool r13) (ArgsOk.dt (ArgsOk.dt ArgsOk.nil')) (c_slim_Idle hr13) ?_
            refine step (v := .d (eL (some 2) eapi_Row a0)) rfl ?_
            refine step (v := .d (.int .i64 i10)) rfl ?_
            refine stepC (r := .bool r14) (ArgsOk.dt (ArgsOk.dt ArgsOk.nil')) (c_ref26_Idle hr14) ?_
            refine step (v := .d (.bool (!(r13 == r14)))) rfl ?_
            exact RunOps.nil' (Norm.mk [] (by decide) (by decide) (by decide) ⟨.d _, .d _, .d _, trivial⟩ trivial)
          by_cases hc15 : (!(r13 == r14)) = true
          · replace h := iteT hc15 h
            refine NWp.condT (t := (!(r13 == r14))) rfl hc15 ?_
            refine NWp.opsJ ⟨tab [(2, .d (.bool false))], stab [], 0⟩ ?_ ?_
            · refine step (v := .d (.bool false)) rfl ?_
              exact RunOps.nil' (Norm.mk [] (by decide) (by decide) (by decide) ⟨.d _, trivial⟩ trivial)
            obtain ⟨r16, kr16, hr⟩ := mapE (o := some false) (g := Br.ret) h
            subst hr
            have h := kr16
            have hh := Option.some.inj h
            subst hh
            refine NWp.ret ?_
            refine And.intro (fun hn => nomatch hn) ?_
            intro hq
            have hq := hq.symm
            subst hq
            show FQ _ _ _ _
            exact FQ.mk1 (.inr rfl) (res_t (v := .d (.bool false)) rfl rfl) (RV.d trivial)
          · replace h := iteF hc15 h
            refine NWp.condF (t := (!(r13 == r14))) rfl hc15 ?_
            refine NWp.skip ?_
            have hh := Option.some.inj h
            subst hh
            refine NWp.opsE ⟨tab [(0, .d (eL (some 2) eapi_Row a0)), (3, .d (.int .i64 (IntKind.i64.wrap (i10 + 1))))], stab [], 0⟩ ?_ ?_
            · refine step (v := .d (.int .i64 i10)) rfl ?_
              refine step (v := .d (.int .i64 (IntKind.i64.wrap (i10 + 1)))) rfl ?_
              refine step (v := .d (.int .i64 (IntKind.i64.wrap (i10 + 1)))) rfl ?_
              exact RunOps.nil' (Norm.mk [] (by decide) (by decide) (by decide) ⟨.d _, .d _, trivial⟩ trivial)
            exact And.intro rfl rfl
        · replace h := iteF hc12 h
          refine NWp.condF (t := decide (i10 ≤ (a0.length : Int))) rfl hc12 ?_
          have hh := Option.some.inj h
          subst hh
          refine NWp.norm (s0 := ⟨tab [(0, .d (eL (some 2) eapi_Row a0))], stab [], 0⟩) (Norm.mk [] (by decide) (by decide) (by decide) ⟨.d _, trivial⟩ trivial) ?_
          refine NWp.exit ?_
          exact And.intro rfl rfl
      · intro r' hq
        subst hq
        exact Option.some.inj h
      rintro z16 rfl
      refine NWp.seq ?_
      refine NWp.opsJ ⟨tab [(0, .d (eL (some 2) eapi_Row a0)), (36, .d (eL (some 2) eapi_Row a0)), (37, .d (.int .i64 (a0.length : Int))), (38, .d (.int .i64 0))], stab [], 0⟩ ?_ ?_
      · refine step (v := .d (eL (some 2) eapi_Row a0)) rfl ?_
        refine step (v := .d (.int .i64 (a0.length : Int))) (st_len (xs := a0) (e := eapi_Row) rfl) ?_
        refine step (v := .d (.int .i64 0)) rfl ?_
        exact RunOps.nil' (Norm.mk [] (by decide) (by decide) (by decide) ⟨.d _, .d _, .d _, .d _, trivial⟩ trivial)
      obtain ⟨q38, hl, h⟩ := bindE h
      refine NWp.block ?_
      refine loop_forR (cntU (a0.length : Int)) (fun (i17 : Int) (qq : Unit) => ⟨tab [(0, .d (eL (some 2) eapi_Row a0)), (36, .d (eL (some 2) eapi_Row a0)), (37, .d (.int .i64 (a0.length : Int))), (38, .d (.int .i64 i17))], stab [], 0⟩) 2 (fun (qq : Unit) => ⟨tab [(0, .d (eL (some 2) eapi_Row a0))], stab [], 0⟩) Low low_step (r := r) hl (by unfold Low; omega) ?_ ?_ ?_ ?_
      · rintro i17 ⟨⟩ xr22 hinv20 hgo19 h
        show NWp _ _ _ _ _ ⟨tab [(0, .d (eL (some 2) eapi_Row a0)), (36, .d (eL (some 2) eapi_Row a0)), (37, .d (.int .i64 (a0.length : Int))), (38, .d (.int .i64 i17))], stab [], 0⟩
        have hc21 : decide (i17 < (a0.length : Int)) = true := decide_eq_true hgo19
        refine NWp.opsJ ⟨tab [(0, .d (eL (some 2) eapi_Row a0)), (36, .d (eL (some 2) eapi_Row a0)), (37, .d (.int .i64 (a0.length : Int))), (38, .d (.int .i64 i17)), (39, .d (.bool (decide (i17 < (a0.length : Int)))))], stab [], 0⟩ ?_ ?_
        · refine step (v := .d (.bool (decide (i17 < (a0.length : Int))))) rfl ?_
          exact RunOps.nil' (Norm.mk [] (by decide) (by decide) (by decide) ⟨.d _, .d _, .d _, .d _, .d _, trivial⟩ trivial)
        refine NWp.rng 37 rfl fun hB18 => ?_
        refine NWp.seq ?_
        refine NWp.condT (t := decide (i17 < (a0.length : Int))) rfl hc21 ?_
        refine NWp.skip ?_
        refine NWp.seq ?_
        refine NWp.block ?_
        obtain ⟨x23, hx23, h⟩ := bindE h
        refine NWp.opsJ ⟨tab [(0, .d (eL (some 2) eapi_Row a0)), (5, .ptr 0 0 0), (36, .d (eL (some 2) eapi_Row a0)), (37, .d (.int .i64 (a0.length : Int))), (38, .d (.int .i64 i17))], stab [(0, .var [.d (eL (some 2) eapi_Pair x23.Match), .d (eL none (eL (some 2) eapi_Pair) x23.Acts)])], 1⟩ ?_ ?_
        · refine step (v := .d (.cptr (some 2) (eapi_Row x23) 0)) (st_iaddr (xs := a0) (e := eapi_Row) hx23 rfl rfl) ?_
          refine step (v := .d (eapi_Row x23)) rfl ?_
          refine step (v := .ptr 0 0 0) (σ' := (upd (stab []) 0 (some (.var [.d (eL (some 2) eapi_Pair []), .d (eL none (eL (some 2) eapi_Pair) [])])))) (n' := 1) rfl ?_
          refine step (v := V.undef) (σ' := (upd (upd (stab []) 0 (some (.var [.d (eL (some 2) eapi_Pair []), .d (eL none (eL (some 2) eapi_Pair) [])]))) 0 (some (.var [.d (eL (some 2) eapi_Pair x23.Match), .d (eL none (eL (some 2) eapi_Pair) x23.Acts)])))) (n' := 1) rfl ?_
          exact RunOps.nil' (Norm.mk [0] (by decide) (by decide) (by decide) ⟨.d _, .ptr 0 _ _ (show 0 < 1 by decide), .d _, .d _, .d _, trivial⟩ ⟨⟨show 0 < 1 by decide, _, rfl, .vars ⟨.d _, .d _, trivial⟩⟩, trivial⟩)
        refine NWp.opsJ ⟨tab [(0, .d (eL (some 2) eapi_Row a0)), (5, .ptr 0 0 0), (36, .d (eL (some 2) eapi_Row a0)), (37, .d (.int .i64 (a0.length : Int))), (38, .d (.int .i64 i17)), (42, .d (eL (some 2) eapi_Row a0)), (43, .d (.int .i64 (a0.length : Int))), (44, .d (.int .i64 0))], stab [(0, .var [.d (eL (some 2) eapi_Pair x23.Match), .d (eL none (eL (some 2) eapi_Pair) x23.Acts)])], 1⟩ ?_ ?_
        · refine step (v := .d (eL (some 2) eapi_Row a0)) rfl ?_
          refine step (v := .d (.int .i64 (a0.length : Int))) (st_len (xs := a0) (e := eapi_Row) rfl) ?_
          refine step (v := .d (.int .i64 0)) rfl ?_
          exact RunOps.nil' (Norm.mk [0] (by decide) (by decide) (by decide) ⟨.d _, .ptr 0 _ _ (show 0 < 1 by decide), .d _, .d _, .d _, .d _, .d _, .d _, trivial⟩ ⟨⟨show 0 < 1 by decide, _, rfl, .vars ⟨.d _, .d _, trivial⟩⟩, trivial⟩)
        obtain ⟨q34, hl, h⟩ := bindE h
        refine NWp.block ?_
        refine loop_forR (cntU (a0.length : Int)) (fun (i24 : Int) (qq : Unit) => ⟨tab [(0, .d (eL (some 2) eapi_Row a0)), (5, .ptr 0 0 0), (36, .d (eL (some 2) eapi_Row a0)), (37, .d (.int .i64 (a0.length : Int))), (38, .d (.int .i64 i17)), (42, .d (eL (some 2) eapi_Row a0)), (43, .d (.int .i64 (a0.length : Int))), (44, .d (.int .i64 i24))], stab [(0, .var [.d (eL (some 2) eapi_Pair x23.Match), .d (eL none (eL (some 2) eapi_Pair) x23.Acts)])], 1⟩) 4 (fun (qq : Unit) => ⟨tab [(0, .d (eL (some 2) eapi_Row a0)), (36, .d (eL (some 2) eapi_Row a0)), (37, .d (.int .i64 (a0.length : Int))), (38, .d (.int .i64 i17))], stab [], 0⟩) Low low_step (r := xr22) hl (by unfold Low; omega) ?_ ?_ ?_ ?_
        · rintro i24 ⟨⟩ xr29 hinv27 hgo26 h
          show NWp _ _ _ _ _ ⟨tab [(0, .d (eL (some 2) eapi_Row a0)), (5, .ptr 0 0 0), (36, .d (eL (some 2) eapi_Row a0)), (37, .d (.int .i64 (a0.length : Int))), (38, .d (.int .i64 i17)), (42, .d (eL (some 2) eapi_Row a0)), (43, .d (.int .i64 (a0.length : Int))), (44, .d (.int .i64 i24))], stab [(0, .var [.d (eL (some 2) eapi_Pair x23.Match), .d (eL none (eL (some 2) eapi_Pair) x23.Acts)])], 1⟩
          have hc28 : decide (i24 < (a0.length : Int)) = true := decide_eq_true hgo26
          refine NWp.opsJ ⟨tab [(0, .d (eL (some 2) eapi_Row a0)), (5, .ptr 0 0 0), (36, .d (eL (some 2) eapi_Row a0)), (37, .d (.int .i64 (a0.length : Int))), (38, .d (.int .i64 i17)), (42, .d (eL (some 2) eapi_Row a0)), (43, .d (.int .i64 (a0.length : Int))), (44, .d (.int .i64 i24)), (45, .d (.bool (decide (i24 < (a0.length : Int)))))], stab [(0, .var [.d (eL (some 2) eapi_Pair x23.Match), .d (eL none (eL (some 2) eapi_Pair) x23.Acts)])], 1⟩ ?_ ?_
          · refine step (v := .d (.bool (decide (i24 < (a0.length : Int))))) rfl ?_
            exact RunOps.nil' (Norm.mk [0] (by decide) (by decide) (by decide) ⟨.d _, .ptr 0 _ _ (show 0 < 1 by decide), .d _, .d _, .d _, .d _, .d _, .d _, .d _, trivial⟩ ⟨⟨show 0 < 1 by decide, _, rfl, .vars ⟨.d _, .d _, trivial⟩⟩, trivial⟩)
          refine NWp.rng 43 rfl fun hB25 => ?_
          refine NWp.seq ?_
          refine NWp.condT (t := decide (i24 < (a0.length : Int))) rfl hc28 ?_
          refine NWp.skip ?_
          refine NWp.seq ?_
          refine NWp.block ?_
          obtain ⟨x30, hx30, h⟩ := bindE h
          refine NWp.opsJ ⟨tab [(0, .d (eL (some 2) eapi_Row a0)), (5, .ptr 0 0 0), (7, .ptr 1 0 0), (36, .d (eL (some 2) eapi_Row a0)), (37, .d (.int .i64 (a0.length : Int))), (38, .d (.int .i64 i17)), (42, .d (eL (some 2) eapi_Row a0)), (43, .d (.int .i64 (a0.length : Int))), (44, .d (.int .i64 i24))], stab [(0, .var [.d (eL (some 2) eapi_Pair x23.Match), .d (eL none (eL (some 2) eapi_Pair) x23.Acts)]), (1, .var [.d (eL (some 2) eapi_Pair x30.Match), .d (eL none (eL (some 2) eapi_Pair) x30.Acts)])], 2⟩ ?_ ?_
          · refine step (v := .d (.cptr (some 2) (eapi_Row x30) 0)) (st_iaddr (xs := a0) (e := eapi_Row) hx30 rfl rfl) ?_
            refine step (v := .d (eapi_Row x30)) rfl ?_
            refine step (v := .ptr 1 0 0) (σ' := (upd (stab [(0, .var [.d (eL (some 2) eapi_Pair x23.Match), .d (eL none (eL (some 2) eapi_Pair) x23.Acts)])]) 1 (some (.var [.d (eL (some 2) eapi_Pair []), .d (eL none (eL (some 2) eapi_Pair) [])])))) (n' := 2) rfl ?_
            refine step (v := V.undef) (σ' := (upd (upd (stab [(0, .var [.d (eL (some 2) eapi_Pair x23.Match), .d (eL none (eL (some 2) eapi_Pair) x23.Acts)])]) 1 (some (.var [.d (eL (some 2) eapi_Pair []), .d (eL none (eL (some 2) eapi_Pair) [])]))) 1 (some (.var [.d (eL (some 2) eapi_Pair x30.Match), .d (eL none (eL (some 2) eapi_Pair) x30.Acts)])))) (n' := 2) rfl ?_
            exact RunOps.nil' (Norm.mk [0, 1] (by decide) (by decide) (by decide) ⟨.d _, .ptr 0 _ _ (show 0 < 2 by decide), .ptr 1 _ _ (show 1 < 2 by decide), .d _, .d _, .d _, .d _, .d _, .d _, trivial⟩ ⟨⟨show 0 < 2 by decide, _, rfl, .vars ⟨.d _, .d _, trivial⟩⟩, ⟨show 1 < 2 by decide, _, rfl, .vars ⟨.d _, .d _, trivial⟩⟩, trivial⟩)
          obtain ⟨r31, hr31, h⟩ := bindE h
          obtain ⟨r32, hr32, h⟩ := bindE h
          refine NWp.opsJ ⟨tab [(0, .d (eL (some 2) eapi_Row a0)), (5, .ptr 0 0 0), (36, .d (eL (some 2) eapi_Row a0)), (37, .d (.int .i64 (a0.length : Int))), (38, .d (.int .i64 i17)), (42, .d (eL (some 2) eapi_Row a0)), (43, .d (.int .i64 (a0.length : Int))), (44, .d (.int .i64 i24)), (54, .d (.bool (!(r31 == r32))))], stab [(0, .var [.d (eL (some 2) eapi_Pair x23.Match), .d (eL none (eL (some 2) eapi_Pair) x23.Acts)])], 1⟩ ?_ ?_
          · refine step (v := .d (eapi_Row x23)) (st_ldV (ds := [eL (some 2) eapi_Pair x23.Match, eL none (eL (some 2) eapi_Pair) x23.Acts]) rfl rfl (show 2 ≤ 2 by decide) rfl) ?_
            refine step (v := .d (eapi_Row x30)) (st_ldV (ds := [eL (some 2) eapi_Pair x30.Match, eL none (eL (some 2) eapi_Pair) x30.Acts]) rfl rfl (show 2 ≤ 2 by decide) rfl) ?_
            refine stepC (r := .bool r31) (ArgsOk.dt (ArgsOk.dt ArgsOk.nil')) (c_slim_Apart hr31) ?_
            refine step (v := .d (eapi_Row x23)) (st_ldV (ds := [eL (some 2) eapi_Pair x23.Match, eL none (eL (some 2) eapi_Pair) x23.Acts]) rfl rfl (show 2 ≤ 2 by decide) rfl) ?_
            refine step (v := .d (eapi_Row x30)) (st_ldV (ds := [eL (some 2) eapi_Pair x30.Match, eL none (eL (some 2) eapi_Pair) x30.Acts]) rfl rfl (show 2 ≤ 2 by decide) rfl) ?_
            refine stepC (r := .bool r32) (ArgsOk.dt (ArgsOk.dt ArgsOk.nil')) (c_ref26_Apart hr32) ?_
            refine step (v := .d (.bool (!(r31 == r32)))) rfl ?_
            exact RunOps.nil' (Norm.mk [0] (by decide) (by decide) (by decide) ⟨.d _, .ptr 0 _ _ (show 0 < 1 by decide), .d _, .d _, .d _, .d _, .d _, .d _, .d _, trivial⟩ ⟨⟨show 0 < 1 by decide, _, rfl, .vars ⟨.d _, .d _, trivial⟩⟩, trivial⟩)
          by_cases hc33 : (!(r31 == r32)) = true
          · replace h := iteT hc33 h
            refine NWp.condT (t := (!(r31 == r32))) rfl hc33 ?_
            refine NWp.opsJ ⟨tab [(2, .d (.bool false))], stab [], 0⟩ ?_ ?_
            · refine step (v := .d (.bool false)) rfl ?_
              exact RunOps.nil' (Norm.mk [] (by decide) (by decide) (by decide) ⟨.d _, trivial⟩ trivial)
            obtain ⟨r34, kr34, hr⟩ := mapE (o := some (Br.ret false)) (g := Br.ret) h
            subst hr
            have h := kr34
            obtain ⟨r35, kr35, hr⟩ := mapE (o := some false) (g := Br.ret) h
            subst hr
            have h := kr35
            have hh := Option.some.inj h
            subst hh
            refine NWp.ret ?_
            refine And.intro (fun hn => nomatch hn) ?_
            intro hq
            have hq := hq.symm
            subst hq
            refine And.intro (fun hn => nomatch hn) ?_
            intro hq
            have hq := hq.symm
            subst hq
            show FQ _ _ _ _
            exact FQ.mk1 (.inr rfl) (res_t (v := .d (.bool false)) rfl rfl) (RV.d trivial)
          · replace h := iteF hc33 h
            refine NWp.condF (t := (!(r31 == r32))) rfl hc33 ?_
            refine NWp.skip ?_
            have hh := Option.some.inj h
            subst hh
            refine NWp.opsE ⟨tab [(0, .d (eL (some 2) eapi_Row a0)), (5, .ptr 0 0 0), (36, .d (eL (some 2) eapi_Row a0)), (37, .d (.int .i64 (a0.length : Int))), (38, .d (.int .i64 i17)), (42, .d (eL (some 2) eapi_Row a0)), (43, .d (.int .i64 (a0.length : Int))), (44, .d (.int .i64 (i24 + 1)))], stab [(0, .var [.d (eL (some 2) eapi_Pair x23.Match), .d (eL none (eL (some 2) eapi_Pair) x23.Acts)])], 1⟩ ?_ ?_
            · refine step (v := .d (.int .i64 (i24 + 1))) (st_inc (inc_ok hinv27 hgo26 hB25) rfl rfl) ?_
              refine step (v := .d (.int .i64 (i24 + 1))) rfl ?_
              exact RunOps.nil' (Norm.mk [0] (by decide) (by decide) (by decide) ⟨.d _, .ptr 0 _ _ (show 0 < 1 by decide), .d _, .d _, .d _, .d _, .d _, .d _, trivial⟩ ⟨⟨show 0 < 1 by decide, _, rfl, .vars ⟨.d _, .d _, trivial⟩⟩, trivial⟩)
            exact And.intro rfl rfl
        · rintro i24 ⟨⟩ hinv27 hgo26
          show NWp _ _ _ _ _ ⟨tab [(0, .d (eL (some 2) eapi_Row a0)), (5, .ptr 0 0 0), (36, .d (eL (some 2) eapi_Row a0)), (37, .d (.int .i64 (a0.length : Int))), (38, .d (.int .i64 i17)), (42, .d (eL (some 2) eapi_Row a0)), (43, .d (.int .i64 (a0.length : Int))), (44, .d (.int .i64 i24))], stab [(0, .var [.d (eL (some 2) eapi_Pair x23.Match), .d (eL none (eL (some 2) eapi_Pair) x23.Acts)])], 1⟩
          have hc28 : ¬ (decide (i24 < (a0.length : Int)) = true) := fun hq => hgo26 (of_decide_eq_true hq)
          refine NWp.opsJ ⟨tab [(0, .d (eL (some 2) eapi_Row a0)), (5, .ptr 0 0 0), (36, .d (eL (some 2) eapi_Row a0)), (37, .d (.int .i64 (a0.length : Int))), (38, .d (.int .i64 i17)), (42, .d (eL (some 2) eapi_Row a0)), (43, .d (.int .i64 (a0.length : Int))), (44, .d (.int .i64 i24)), (45, .d (.bool (decide (i24 < (a0.length : Int)))))], stab [(0, .var [.d (eL (some 2) eapi_Pair x23.Match), .d (eL none (eL (some 2) eapi_Pair) x23.Acts)])], 1⟩ ?_ ?_
          · refine step (v := .d (.bool (decide (i24 < (a0.length : Int))))) rfl ?_
            exact RunOps.nil' (Norm.mk [0] (by decide) (by decide) (by decide) ⟨.d _, .ptr 0 _ _ (show 0 < 1 by decide), .d _, .d _, .d _, .d _, .d _, .d _, .d _, trivial⟩ ⟨⟨show 0 < 1 by decide, _, rfl, .vars ⟨.d _, .d _, trivial⟩⟩, trivial⟩)
          refine NWp.seq ?_
          refine NWp.condF (t := decide (i24 < (a0.length : Int))) rfl hc28 ?_
          refine NWp.norm (s0 := ⟨tab [(0, .d (eL (some 2) eapi_Row a0)), (36, .d (eL (some 2) eapi_Row a0)), (37, .d (.int .i64 (a0.length : Int))), (38, .d (.int .i64 i17))], stab [], 0⟩) (Norm.mk [] (by decide) (by decide) (by decide) ⟨.d _, .d _, .d _, .d _, trivial⟩ trivial) ?_
          refine NWp.exit ?_
          exact And.intro rfl rfl
        · intro r' hq
          subst hq
          exact Option.some.inj h
        rintro ⟨⟩ rfl
        have hh := Option.some.inj h
        subst hh
        refine NWp.opsE ⟨tab [(0, .d (eL (some 2) eapi_Row a0)), (36, .d (eL (some 2) eapi_Row a0)), (37, .d (.int .i64 (a0.length : Int))), (38, .d (.int .i64 (i17 + 1)))], stab [], 0⟩ ?_ ?_
        · refine step (v := .d (.int .i64 (i17 + 1))) (st_inc (inc_ok hinv20 hgo19 hB18) rfl rfl) ?_
          refine step (v := .d (.int .i64 (i17 + 1))) rfl ?_
          exact RunOps.nil' (Norm.mk [] (by decide) (by decide) (by decide) ⟨.d _, .d _, .d _, .d _, trivial⟩ trivial)
        exact And.intro rfl rfl
      · rintro i17 ⟨⟩ hinv20 hgo19
        show NWp _ _ _ _ _ ⟨tab [(0, .d (eL (some 2) eapi_Row a0)), (36, .d (eL (some 2) eapi_Row a0)), (37, .d (.int .i64 (a0.length : Int))), (38, .d (.int .i64 i17))], stab [], 0⟩
        have hc21 : ¬ (decide (i17 < (a0.length : Int)) = true) := fun hq => hgo19 (of_decide_eq_true hq)
        refine NWp.opsJ ⟨tab [(0, .d (eL (some 2) eapi_Row a0)), (36, .d (eL (some 2) eapi_Row a0)), (37, .d (.int .i64 (a0.length : Int))), (38, .d (.int .i64 i17)), (39, .d (.bool (decide (i17 < (a0.length : Int)))))], stab [], 0⟩ ?_ ?_
        · refine step (v := .d (.bool (decide (i17 < (a0.length : Int))))) rfl ?_
          exact RunOps.nil' (Norm.mk [] (by decide) (by decide) (by decide) ⟨.d _, .d _, .d _, .d _, .d _, trivial⟩ trivial)
        refine NWp.seq ?_
        refine NWp.condF (t := decide (i17 < (a0.length : Int))) rfl hc21 ?_
        refine NWp.norm (s0 := ⟨tab [(0, .d (eL (some 2) eapi_Row a0))], stab [], 0⟩) (Norm.mk [] (by decide) (by decide) (by decide) ⟨.d _, trivial⟩ trivial) ?_
        refine NWp.exit ?_
        exact And.intro rfl rfl
      · intro r' hq
        subst hq
        exact Option.some.inj h
      rintro ⟨⟩ rfl
      obtain ⟨r35, hr35, h⟩ := bindE h
      obtain ⟨r36, hr36, h⟩ := bindE h
      obtain ⟨r37, hr37, h⟩ := bindE h
      refine NWp.opsJ ⟨tab [(2, .d (.bool r37))], stab [], 0⟩ ?_ ?_
      · refine step (v := .d (eL (some 2) eapi_Row a0)) rfl ?_
        refine stepC (r := eL (some 2) eapi_Row r35) (ArgsOk.dt ArgsOk.nil') (c_slim_Slim hr35) ?_
        refine step (v := .d (eL (some 2) eapi_Row a0)) rfl ?_
        refine stepC (r := eL (some 2) eapi_Row r36) (ArgsOk.dt ArgsOk.nil') (c_ref26_Slim hr36) ?_
        refine stepC (r := .bool r37) (ArgsOk.dt (ArgsOk.dt ArgsOk.nil')) (c_ref09_Same hr37) ?_
        refine step (v := .d (.bool r37)) rfl ?_
        exact RunOps.nil' (Norm.mk [] (by decide) (by decide) (by decide) ⟨.d _, trivial⟩ trivial)
      have hh := Option.some.inj h
      subst hh
      refine NWp.ret ?_
      show FQ _ _ _ _
      exact FQ.mk1 (.inr rfl) (res_t (v := .d (.bool r37)) rfl rfl) (RV.d trivial)

theorem c_ref01_Has {a0 : (A8 Int)} {a1 : (List api_Pair)} {r : Bool} (h : ref01_Has a0 a1 = some r) : PCall Try.prog 61 [eA8 (D.int .u16) a0, eL (some 2) eapi_Pair a1] (.bool r) := by
  refine PCall.introN ok61 (show 2 ≤ 41 by decide) ?_
  refine NWp.norm (s0 := ⟨tab [(0, .d (eA8 (D.int .u16) a0)), (1, .d (eL (some 2) eapi_Pair a1))], stab [], 0⟩) (Norm.mk [] (by decide) (by decide) (by decide) ⟨.d _, .d _, trivial⟩ trivial) ?_
  refine NWp.opsJ ⟨tab [(1, .d (eL (some 2) eapi_Pair a1)), (2, .d (.cptr (some 8) (eA8 (D.int .u16) a0) 0))], stab [], 0⟩ ?_ ?_
  · refine step (v := .d (.cptr (some 8) (eA8 (D.int .u16) a0) 0)) rfl ?_
    refine step (v := .d (.bool false)) rfl ?_
    exact RunOps.nil' (Norm.mk [] (by decide) (by decide) (by decide) ⟨.d _, .d _, trivial⟩ trivial)
  refine NWp.seq ?_
  refine NWp.opsJ ⟨tab [(1, .d (eL (some 2) eapi_Pair a1)), (2, .d (.cptr (some 8) (eA8 (D.int .u16) a0) 0)), (5, .d (.int .i64 0))], stab [], 0⟩ ?_ ?_
  · refine step (v := .d (.int .i64 0)) rfl ?_
    exact RunOps.nil' (Norm.mk [] (by decide) (by decide) (by decide) ⟨.d _, .d _, .d _, trivial⟩ trivial)
  obtain ⟨q14, hl, h⟩ := bindE h
  refine NWp.block ?_
  refine loop_forR (cntU (a1.length : Int)) (fun (i1 : Int) (qq : Unit) => ⟨tab [(1, .d (eL (some 2) eapi_Pair a1)), (2, .d (.cptr (some 8) (eA8 (D.int .u16) a0) 0)), (5, .d (.int .i64 i1))], stab [], 0⟩) 0 (fun (qq : Unit) => ⟨tab [], stab [], 0⟩) Low low_step (r := r) hl (by unfold Low; omega) ?_ ?_ ?_ ?_
  · rintro i1 ⟨⟩ xr6 hinv4 hgo3 h
    show NWp _ _ _ _ _ ⟨tab [(1, .d (eL (some 2) eapi_Pair a1)), (2, .d (.cptr (some 8) (eA8 (D.int .u16) a0) 0)), (5, .d (.int .i64 i1))], stab [], 0⟩
    have hc5 : decide (i1 < (a1.length : Int)) = true := decide_eq_true hgo3
    refine NWp.seq ?_
    refine NWp.opsJ ⟨tab [(1, .d (eL (some 2) eapi_Pair a1)), (2, .d (.cptr (some 8) (eA8 (D.int .u16) a0) 0)), (5, .d (.int .i64 i1)), (8, .d (.int .i64 (a1.length : Int))), (9, .d (.bool (decide (i1 < (a1.length : Int)))))], stab [], 0⟩ ?_ ?_
    · refine step (v := .d (.int .i64 i1)) rfl ?_
      refine step (v := .d (eL (some 2) eapi_Pair a1)) rfl ?_
      refine step (v := .d (.int .i64 (a1.length : Int))) (st_len (xs := a1) (e := eapi_Pair) rfl) ?_
      refine step (v := .d (.bool (decide (i1 < (a1.length : Int))))) rfl ?_
      exact RunOps.nil' (Norm.mk [] (by decide) (by decide) (by decide) ⟨.d _, .d _, .d _, .d _, .d _, trivial⟩ trivial)
    refine NWp.rng 8 rfl fun hB2 => ?_
    refine NWp.condT (t := decide (i1 < (a1.length : Int))) rfl hc5 ?_
    refine NWp.skip ?_
    refine NWp.seq ?_
    refine NWp.block ?_
    obtain ⟨x7, hx7, h⟩ := bindE h
    obtain ⟨y11, hv, h⟩ := bindE h
    refine NWp.opsJ ⟨tab [(1, .d (eL (some 2) eapi_Pair a1)), (2, .d (.cptr (some 8) (eA8 (D.int .u16) a0) 0)), (5, .d (.int .i64 i1)), (40, .d (.bool y11))], stab [], 0⟩ ?_ ?_
    · refine step (v := .d (eL (some 2) eapi_Pair a1)) rfl ?_
      refine step (v := .d (.int .i64 i1)) rfl ?_
      refine step (v := .d (.cptr (some 2) (eapi_Pair x7) 0)) (st_iaddr (xs := a1) (e := eapi_Pair) hx7 rfl rfl) ?_
      refine step (v := .d (.cptr (some 2) (eapi_Pair x7) 0)) rfl ?_
      refine step (v := .d (.int .i64 x7.F)) rfl ?_
      refine step (v := .d (.bool (decide (x7.F < 0)))) rfl ?_
      refine step (v := .d (.bool (decide (x7.F < 0)))) rfl ?_
      by_cases hg8 : decide (x7.F < 0) = true
      · replace hv := iteT hg8 hv
        refine stepX (c := decide (x7.F < 0)) rfl (by rw [hg8]; decide) ?_
        refine stepX (c := decide (x7.F < 0)) rfl (by rw [hg8]; decide) ?_
        refine stepX (c := decide (x7.F < 0)) rfl (by rw [hg8]; decide) ?_
        refine stepX (c := decide (x7.F < 0)) rfl (by rw [hg8]; decide) ?_
        refine stepX (c := decide (x7.F < 0)) rfl (by rw [hg8]; decide) ?_
        refine stepX (c := decide (x7.F < 0)) rfl (by rw [hg8]; decide) ?_
        refine step (v := .d (.bool true)) (st_pickT (b := decide (x7.F < 0)) rfl hg8 rfl) ?_
        refine step (v := .d (.bool true)) rfl ?_
        refine stepX (c := true) rfl (by decide) ?_
        refine stepX (c := true) rfl (by decide) ?_
        refine stepX (c := true) rfl (by decide) ?_
        refine stepX (c := true) rfl (by decide) ?_
        refine stepX (c := true) rfl (by decide) ?_
        refine stepX (c := true) rfl (by decide) ?_
        refine stepX (c := true) rfl (by decide) ?_
        refine stepX (c := true) rfl (by decide) ?_
        refine stepX (c := true) rfl (by decide) ?_
        refine stepX (c := true) rfl (by decide) ?_
        refine stepX (c := true) rfl (by decide) ?_
        refine stepX (c := true) rfl (by decide) ?_
        refine stepX (c := true) rfl (by decide) ?_
        refine step (v := .d (.bool true)) (st_pickT (b := true) rfl rfl rfl) ?_
        have hh := Option.some.inj hv
        subst hh
        exact RunOps.nil' (Norm.mk [] (by decide) (by decide) (by decide) ⟨.d _, .d _, .d _, .d _, trivial⟩ trivial)
      · replace hv := iteF hg8 hv
        refine stepG (c := decide (x7.F < 0)) rfl (Bool.eq_false_iff.2 hg8) ?_
        refine step (v := .d (eL (some 2) eapi_Pair a1)) rfl ?_
        refine stepG (c := decide (x7.F < 0)) rfl (Bool.eq_false_iff.2 hg8) ?_
        refine step (v := .d (.int .i64 i1)) rfl ?_
        refine stepG (c := decide (x7.F < 0)) rfl (Bool.eq_false_iff.2 hg8) ?_
        refine step (v := .d (.cptr (some 2) (eapi_Pair x7) 0)) (st_iaddr (xs := a1) (e := eapi_Pair) hx7 rfl rfl) ?_
        refine stepG (c := decide (x7.F < 0)) rfl (Bool.eq_false_iff.2 hg8) ?_
        refine step (v := .d (.cptr (some 2) (eapi_Pair x7) 0)) rfl ?_
        refine stepG (c := decide (x7.F < 0)) rfl (Bool.eq_false_iff.2 hg8) ?_
        refine step (v := .d (.int .i64 x7.F)) rfl ?_
        refine stepG (c := decide (x7.F < 0)) rfl (Bool.eq_false_iff.2 hg8) ?_
        refine step (v := .d (.bool (decide (x7.F > 7)))) rfl ?_
        refine step (v := .d (.bool (decide (x7.F > 7)))) (st_pickF (b := decide (x7.F < 0)) rfl hg8 rfl) ?_
        refine step (v := .d (.bool (decide (x7.F > 7)))) rfl ?_
        by_cases hg9 : decide (x7.F > 7) = true
        · replace hv := iteT hg9 hv
          refine stepX (c := decide (x7.F > 7)) rfl (by rw [hg9]; decide) ?_
          refine stepX (c := decide (x7.F > 7)) rfl (by rw [hg9]; decide) ?_
          refine stepX (c := decide (x7.F > 7)) rfl (by rw [hg9]; decide) ?_
          refine stepX (c := decide (x7.F > 7)) rfl (by rw [hg9]; decide) ?_
          refine stepX (c := decide (x7.F > 7)) rfl (by rw [hg9]; decide) ?_
          refine stepX (c := decide (x7.F > 7)) rfl (by rw [hg9]; decide) ?_
          refine stepX (c := decide (x7.F > 7)) rfl (by rw [hg9]; decide) ?_
          refine stepX (c := decide (x7.F > 7)) rfl (by rw [hg9]; decide) ?_
          refine stepX (c := decide (x7.F > 7)) rfl (by rw [hg9]; decide) ?_
          refine stepX (c := decide (x7.F > 7)) rfl (by rw [hg9]; decide) ?_
          refine stepX (c := decide (x7.F > 7)) rfl (by rw [hg9]; decide) ?_
          refine stepX (c := decide (x7.F > 7)) rfl (by rw [hg9]; decide) ?_
          refine stepX (c := decide (x7.F > 7)) rfl (by rw [hg9]; decide) ?_
          refine step (v := .d (.bool true)) (st_pickT (b := decide (x7.F > 7)) rfl hg9 rfl) ?_
          have hh := Option.some.inj hv
          subst hh
          exact RunOps.nil' (Norm.mk [] (by decide) (by decide) (by decide) ⟨.d _, .d _, .d _, .d _, trivial⟩ trivial)
        · replace hv := iteF hg9 hv
          obtain ⟨x10, hx10, hv⟩ := bindE hv
          refine stepG (c := decide (x7.F > 7)) rfl (Bool.eq_false_iff.2 hg9) ?_
          refine step (v := .d (eL (some 2) eapi_Pair a1)) rfl ?_
          refine stepG (c := decide (x7.F > 7)) rfl (Bool.eq_false_iff.2 hg9) ?_
          refine step (v := .d (.int .i64 i1)) rfl ?_
          refine stepG (c := decide (x7.F > 7)) rfl (Bool.eq_false_iff.2 hg9) ?_
          refine step (v := .d (.cptr (some 2) (eapi_Pair x7) 0)) (st_iaddr (xs := a1) (e := eapi_Pair) hx7 rfl rfl) ?_
          refine stepG (c := decide (x7.F > 7)) rfl (Bool.eq_false_iff.2 hg9) ?_
          refine step (v := .d (.cptr (some 2) (eapi_Pair x7) 0)) rfl ?_
          refine stepG (c := decide (x7.F > 7)) rfl (Bool.eq_false_iff.2 hg9) ?_
          refine step (v := .d (.int .i64 x7.F)) rfl ?_
          refine stepG (c := decide (x7.F > 7)) rfl (Bool.eq_false_iff.2 hg9) ?_
          refine step (v := .d (.cptr (some 8) (eA8 (D.int .u16) a0) (0 + x7.F.toNat * 1))) (st_iaddrAC (xs := a0.l) hx10 rfl rfl rfl) ?_
          refine stepG (c := decide (x7.F > 7)) rfl (Bool.eq_false_iff.2 hg9) ?_
          refine step (v := .d (.int .u16 x10)) (st_ldIC rfl (ld_arr (e := (D.int .u16)) (xs := a0.l) (pre := []) (post := []) hx10 rfl (by decide))) ?_
          refine stepG (c := decide (x7.F > 7)) rfl (Bool.eq_false_iff.2 hg9) ?_
          refine step (v := .d (eL (some 2) eapi_Pair a1)) rfl ?_
          refine stepG (c := decide (x7.F > 7)) rfl (Bool.eq_false_iff.2 hg9) ?_
          refine step (v := .d (.int .i64 i1)) rfl ?_
          refine stepG (c := decide (x7.F > 7)) rfl (Bool.eq_false_iff.2 hg9) ?_
          refine step (v := .d (.cptr (some 2) (eapi_Pair x7) 0)) (st_iaddr (xs := a1) (e := eapi_Pair) hx7 rfl rfl) ?_
          refine stepG (c := decide (x7.F > 7)) rfl (Bool.eq_false_iff.2 hg9) ?_
          refine step (v := .d (.cptr (some 2) (eapi_Pair x7) 1)) rfl ?_
          refine stepG (c := decide (x7.F > 7)) rfl (Bool.eq_false_iff.2 hg9) ?_
          refine step (v := .d (.int .u16 x7.N)) rfl ?_
          refine stepG (c := decide (x7.F > 7)) rfl (Bool.eq_false_iff.2 hg9) ?_
          refine step (v := .d (.bool (x10 != x7.N))) rfl ?_
          refine step (v := .d (.bool (x10 != x7.N))) (st_pickF (b := decide (x7.F > 7)) rfl hg9 rfl) ?_
          have hh := Option.some.inj hv
          subst hh
          exact RunOps.nil' (Norm.mk [] (by decide) (by decide) (by decide) ⟨.d _, .d _, .d _, .d _, trivial⟩ trivial)
    by_cases hc13 : y11 = true
    · replace h := iteT hc13 h
      refine NWp.condT (t := y11) rfl hc13 ?_
      refine NWp.opsJ ⟨tab [(4, .d (.bool false))], stab [], 0⟩ ?_ ?_
      · refine step (v := .d (.bool false)) rfl ?_
        exact RunOps.nil' (Norm.mk [] (by decide) (by decide) (by decide) ⟨.d _, trivial⟩ trivial)
      obtain ⟨r14, kr14, hr⟩ := mapE (o := some false) (g := Br.ret) h
      subst hr
      have h := kr14
      have hh := Option.some.inj h
      subst hh
      refine NWp.ret ?_
      refine And.intro (fun hn => nomatch hn) ?_
      intro hq
      have hq := hq.symm
      subst hq
      show FQ _ _ _ _
      exact FQ.mk1 (.inr rfl) (res_t (v := .d (.bool false)) rfl rfl) (RV.d trivial)
    · replace h := iteF hc13 h
      refine NWp.condF (t := y11) rfl hc13 ?_
      refine NWp.skip ?_
      have hh := Option.some.inj h
      subst hh
      refine NWp.opsE ⟨tab [(1, .d (eL (some 2) eapi_Pair a1)), (2, .d (.cptr (some 8) (eA8 (D.int .u16) a0) 0)), (5, .d (.int .i64 (i1 + 1)))], stab [], 0⟩ ?_ ?_
      · refine step (v := .d (.int .i64 i1)) rfl ?_
        refine step (v := .d (.int .i64 (i1 + 1))) (st_inc (inc_ok hinv4 hgo3 hB2) rfl rfl) ?_
        refine step (v := .d (.int .i64 (i1 + 1))) rfl ?_
        exact RunOps.nil' (Norm.mk [] (by decide) (by decide) (by decide) ⟨.d _, .d _, .d _, trivial⟩ trivial)
      exact And.intro rfl rfl
  · rintro i1 ⟨⟩ hinv4 hgo3
    show NWp _ _ _ _ _ ⟨tab [(1, .d (eL (some 2) eapi_Pair a1)), (2, .d (.cptr (some 8) (eA8 (D.int .u16) a0) 0)), (5, .d (.int .i64 i1))], stab [], 0⟩
    have hc5 : ¬ (decide (i1 < (a1.length : Int)) = true) := fun hq => hgo3 (of_decide_eq_true hq)
    refine NWp.seq ?_
    refine NWp.opsJ ⟨tab [(1, .d (eL (some 2) eapi_Pair a1)), (2, .d (.cptr (some 8) (eA8 (D.int .u16) a0) 0)), (5, .d (.int .i64 i1)), (9, .d (.bool (decide (i1 < (a1.length : Int)))))], stab [], 0⟩ ?_ ?_
    · refine step (v := .d (.int .i64 i1)) rfl ?_
      refine step (v := .d (eL (some 2) eapi_Pair a1)) rfl ?_
      refine step (v := .d (.int .i64 (a1.length : Int))) (st_len (xs := a1) (e := eapi_Pair) rfl) ?_
      refine step (v := .d (.bool (decide (i1 < (a1.length : Int))))) rfl ?_
      exact RunOps.nil' (Norm.mk [] (by decide) (by decide) (by decide) ⟨.d _, .d _, .d _, .d _, trivial⟩ trivial)
    refine NWp.condF (t := decide (i1 < (a1.length : Int))) rfl hc5 ?_
    refine NWp.norm (s0 := ⟨tab [], stab [], 0⟩) (Norm.mk [] (by decide) (by decide) (by decide) trivial trivial) ?_
    refine NWp.exit ?_
    exact And.intro rfl rfl
  · intro r' hq
    subst hq
    exact Option.some.inj h
  rintro ⟨⟩ rfl
  refine NWp.opsJ ⟨tab [(4, .d (.bool true))], stab [], 0⟩ ?_ ?_
  · refine step (v := .d (.bool true)) rfl ?_
    exact RunOps.nil' (Norm.mk [] (by decide) (by decide) (by decide) ⟨.d _, trivial⟩ trivial)
  have hh := Option.some.inj h
  subst hh
  refine NWp.ret ?_
  show FQ _ _ _ _
  exact FQ.mk1 (.inr rfl) (res_t (v := .d (.bool true)) rfl rfl) (RV.d trivial)

theorem c_ref01_With {a0 : (A8 Int)} {a1 : Int} {a2 : Int} {r : (A8 Int)} (h : ref01_With a0 a1 a2 = some r) : PCall Try.prog 77 [eA8 (D.int .u16) a0, .int .i64 a1, .int .u16 a2] (eA8 (D.int .u16) r) := by
  refine PCall.introN ok77 (show 3 ≤ 17 by decide) ?_
  refine NWp.norm (s0 := ⟨tab [(0, .d (eA8 (D.int .u16) a0)), (1, .d (.int .i64 a1)), (2, .d (.int .u16 a2))], stab [], 0⟩) (Norm.mk [] (by decide) (by decide) (by decide) ⟨.d _, .d _, .d _, trivial⟩ trivial) ?_
  refine NWp.opsJ ⟨tab [(1, .d (.int .i64 a1)), (2, .d (.int .u16 a2)), (3, .ptr 0 0 0), (6, .ptr 1 0 0)], stab [(0, .var [.d (.int .u16 a0.a0), .d (.int .u16 a0.a1), .d (.int .u16 a0.a2), .d (.int .u16 a0.a3), .d (.int .u16 a0.a4), .d (.int .u16 a0.a5), .d (.int .u16 a0.a6), .d (.int .u16 a0.a7)]), (1, .var [.d (.int .u16 0), .d (.int .u16 0), .d (.int .u16 0), .d (.int .u16 0), .d (.int .u16 0), .d (.int .u16 0), .d (.int .u16 0), .d (.int .u16 0)])], 2⟩ ?_ ?_
  · refine step (v := .ptr 0 0 0) (σ' := (upd (stab []) 0 (some (.var [.d (.int .u16 a0.a0), .d (.int .u16 a0.a1), .d (.int .u16 a0.a2), .d (.int .u16 a0.a3), .d (.int .u16 a0.a4), .d (.int .u16 a0.a5), .d (.int .u16 a0.a6), .d (.int .u16 a0.a7)])))) (n' := 1) rfl ?_
    refine step (v := .ptr 1 0 0) (σ' := (upd (upd (stab []) 0 (some (.var [.d (.int .u16 a0.a0), .d (.int .u16 a0.a1), .d (.int .u16 a0.a2), .d (.int .u16 a0.a3), .d (.int .u16 a0.a4), .d (.int .u16 a0.a5), .d (.int .u16 a0.a6), .d (.int .u16 a0.a7)]))) 1 (some (.var [.d (.int .u16 0), .d (.int .u16 0), .d (.int .u16 0), .d (.int .u16 0), .d (.int .u16 0), .d (.int .u16 0), .d (.int .u16 0), .d (.int .u16 0)])))) (n' := 2) rfl ?_
    exact RunOps.nil' (Norm.mk [0, 1] (by decide) (by decide) (by decide) ⟨.d _, .d _, .ptr 0 _ _ (show 0 < 2 by decide), .ptr 1 _ _ (show 1 < 2 by decide), trivial⟩ ⟨⟨show 0 < 2 by decide, _, rfl, .vars ⟨.d _, .d _, .d _, .d _, .d _, .d _, .d _, .d _, trivial⟩⟩, ⟨show 1 < 2 by decide, _, rfl, .vars ⟨.d _, .d _, .d _, .d _, .d _, .d _, .d _, .d _, trivial⟩⟩, trivial⟩)
  obtain ⟨y5, hv, h⟩ := bindE h
  refine NWp.seqN ⟨tab [(3, .ptr 0 0 0), (6, .ptr 1 0 0)], stab [(0, .var [.d (.int .u16 y5.a0), .d (.int .u16 y5.a1), .d (.int .u16 y5.a2), .d (.int .u16 y5.a3), .d (.int .u16 y5.a4), .d (.int .u16 y5.a5), .d (.int .u16 y5.a6), .d (.int .u16 y5.a7)]), (1, .var [.d (.int .u16 0), .d (.int .u16 0), .d (.int .u16 0), .d (.int .u16 0), .d (.int .u16 0), .d (.int .u16 0), .d (.int .u16 0), .d (.int .u16 0)])], 2⟩ ?_ ?_
  · replace h := hv
    refine NWp.opsJ ⟨tab [(1, .d (.int .i64 a1)), (2, .d (.int .u16 a2)), (3, .ptr 0 0 0), (6, .ptr 1 0 0), (12, .d (.bool ((decide (a1 ≥ 0)) && (decide (a1 < 8)))))], stab [(0, .var [.d (.int .u16 a0.a0), .d (.int .u16 a0.a1), .d (.int .u16 a0.a2), .d (.int .u16 a0.a3), .d (.int .u16 a0.a4), .d (.int .u16 a0.a5), .d (.int .u16 a0.a6), .d (.int .u16 a0.a7)]), (1, .var [.d (.int .u16 0), .d (.int .u16 0), .d (.int .u16 0), .d (.int .u16 0), .d (.int .u16 0), .d (.int .u16 0), .d (.int .u16 0), .d (.int .u16 0)])], 2⟩ ?_ ?_
    · refine step (v := .d (.int .i64 a1)) rfl ?_
      refine step (v := .d (.bool (decide (a1 ≥ 0)))) rfl ?_
      refine step (v := .d (.bool (decide (a1 ≥ 0)))) rfl ?_
      by_cases hg1 : decide (a1 ≥ 0) = true
      · refine stepG (c := decide (a1 ≥ 0)) rfl hg1 ?_
        refine step (v := .d (.int .i64 a1)) rfl ?_
        refine stepG (c := decide (a1 ≥ 0)) rfl hg1 ?_
        refine step (v := .d (.bool (decide (a1 < 8)))) rfl ?_
        refine step (v := .d (.bool (decide (a1 < 8)))) (st_pickT (b := decide (a1 ≥ 0)) rfl hg1 rfl) ?_
        exact RunOps.nil' (Norm.mk [0, 1] (by decide) (by decide) (by decide) ⟨.d _, .d _, .ptr 0 _ _ (show 0 < 2 by decide), .ptr 1 _ _ (show 1 < 2 by decide), .eq (by simp [hg1]), trivial⟩ ⟨⟨show 0 < 2 by decide, _, rfl, .vars ⟨.d _, .d _, .d _, .d _, .d _, .d _, .d _, .d _, trivial⟩⟩, ⟨show 1 < 2 by decide, _, rfl, .vars ⟨.d _, .d _, .d _, .d _, .d _, .d _, .d _, .d _, trivial⟩⟩, trivial⟩)
      · refine stepX (c := decide (a1 ≥ 0)) rfl hg1 ?_
        refine stepX (c := decide (a1 ≥ 0)) rfl hg1 ?_
        refine step (v := .d (.bool false)) (st_pickF (b := decide (a1 ≥ 0)) rfl hg1 rfl) ?_
        exact RunOps.nil' (Norm.mk [0, 1] (by decide) (by decide) (by decide) ⟨.d _, .d _, .ptr 0 _ _ (show 0 < 2 by decide), .ptr 1 _ _ (show 1 < 2 by decide), .eq (by simp [hg1]), trivial⟩ ⟨⟨show 0 < 2 by decide, _, rfl, .vars ⟨.d _, .d _, .d _, .d _, .d _, .d _, .d _, .d _, trivial⟩⟩, ⟨show 1 < 2 by decide, _, rfl, .vars ⟨.d _, .d _, .d _, .d _, .d _, .d _, .d _, .d _, trivial⟩⟩, trivial⟩)
    by_cases hc2 : ((decide (a1 ≥ 0)) && (decide (a1 < 8))) = true
    · replace h := iteT hc2 h
      refine NWp.condT (t := ((decide (a1 ≥ 0)) && (decide (a1 < 8)))) rfl hc2 ?_
      obtain ⟨x3, hx3, h⟩ := bindE h
      obtain ⟨x4, hx4, h⟩ := bindE h
      have hh := Option.some.inj h
      subst hh
      refine NWp.opsE ⟨tab [(3, .ptr 0 0 0), (6, .ptr 1 0 0)], stab [(0, .var [.d (.int .u16 x4.a0), .d (.int .u16 x4.a1), .d (.int .u16 x4.a2), .d (.int .u16 x4.a3), .d (.int .u16 x4.a4), .d (.int .u16 x4.a5), .d (.int .u16 x4.a6), .d (.int .u16 x4.a7)]), (1, .var [.d (.int .u16 0), .d (.int .u16 0), .d (.int .u16 0), .d (.int .u16 0), .d (.int .u16 0), .d (.int .u16 0), .d (.int .u16 0), .d (.int .u16 0)])], 2⟩ ?_ ?_
      · refine step (v := .d (.int .i64 a1)) rfl ?_
        refine step (v := .d (.int .u16 a2)) rfl ?_
        refine step (v := .ptr 0 0 (0 + a1.toNat * 1)) (st_iaddrAP (xs := a0.l) hx3 rfl rfl rfl) ?_
        refine step (v := V.undef) (σ' := (upd (stab [(0, .var [.d (.int .u16 a0.a0), .d (.int .u16 a0.a1), .d (.int .u16 a0.a2), .d (.int .u16 a0.a3), .d (.int .u16 a0.a4), .d (.int .u16 a0.a5), .d (.int .u16 a0.a6), .d (.int .u16 a0.a7)]), (1, .var [.d (.int .u16 0), .d (.int .u16 0), .d (.int .u16 0), .d (.int .u16 0), .d (.int .u16 0), .d (.int .u16 0), .d (.int .u16 0), .d (.int .u16 0)])]) 0 (some (.var [.d (.int .u16 x4.a0), .d (.int .u16 x4.a1), .d (.int .u16 x4.a2), .d (.int .u16 x4.a3), .d (.int .u16 x4.a4), .d (.int .u16 x4.a5), .d (.int .u16 x4.a6), .d (.int .u16 x4.a7)])))) (n' := 2) (st_storeA (e := (D.int .u16)) (xs := a0.l) (xs' := x4.l) (pre := []) (post := []) (A8.put_l hx4) rfl rfl rfl rfl rfl rfl) ?_
        exact RunOps.nil' (Norm.mk [0, 1] (by decide) (by decide) (by decide) ⟨.ptr 0 _ _ (show 0 < 2 by decide), .ptr 1 _ _ (show 1 < 2 by decide), trivial⟩ ⟨⟨show 0 < 2 by decide, _, rfl, .vars ⟨.d _, .d _, .d _, .d _, .d _, .d _, .d _, .d _, trivial⟩⟩, ⟨show 1 < 2 by decide, _, rfl, .vars ⟨.d _, .d _, .d _, .d _, .d _, .d _, .d _, .d _, trivial⟩⟩, trivial⟩)
      exact And.intro rfl rfl
    · replace h := iteF hc2 h
      refine NWp.condF (t := ((decide (a1 ≥ 0)) && (decide (a1 < 8)))) rfl hc2 ?_
      have hh := Option.some.inj h
      subst hh
      refine NWp.norm (s0 := ⟨tab [(3, .ptr 0 0 0), (6, .ptr 1 0 0)], stab [(0, .var [.d (.int .u16 a0.a0), .d (.int .u16 a0.a1), .d (.int .u16 a0.a2), .d (.int .u16 a0.a3), .d (.int .u16 a0.a4), .d (.int .u16 a0.a5), .d (.int .u16 a0.a6), .d (.int .u16 a0.a7)]), (1, .var [.d (.int .u16 0), .d (.int .u16 0), .d (.int .u16 0), .d (.int .u16 0), .d (.int .u16 0), .d (.int .u16 0), .d (.int .u16 0), .d (.int .u16 0)])], 2⟩) (Norm.mk [0, 1] (by decide) (by decide) (by decide) ⟨.ptr 0 _ _ (show 0 < 2 by decide), .ptr 1 _ _ (show 1 < 2 by decide), trivial⟩ ⟨⟨show 0 < 2 by decide, _, rfl, .vars ⟨.d _, .d _, .d _, .d _, .d _, .d _, .d _, .d _, trivial⟩⟩, ⟨show 1 < 2 by decide, _, rfl, .vars ⟨.d _, .d _, .d _, .d _, .d _, .d _, .d _, .d _, trivial⟩⟩, trivial⟩) ?_
      refine NWp.skip ?_
      exact And.intro rfl rfl
  refine NWp.opsJ ⟨tab [(6, .ptr 0 0 0)], stab [(0, .var [.d (.int .u16 y5.a0), .d (.int .u16 y5.a1), .d (.int .u16 y5.a2), .d (.int .u16 y5.a3), .d (.int .u16 y5.a4), .d (.int .u16 y5.a5), .d (.int .u16 y5.a6), .d (.int .u16 y5.a7)])], 1⟩ ?_ ?_
  · refine step (v := .d (eA8 (D.int .u16) y5)) (st_ldV (ds := [.int .u16 y5.a0, .int .u16 y5.a1, .int .u16 y5.a2, .int .u16 y5.a3, .int .u16 y5.a4, .int .u16 y5.a5, .int .u16 y5.a6, .int .u16 y5.a7]) rfl rfl (show 8 ≤ 8 by decide) rfl) ?_
    refine step (v := V.undef) (σ' := (upd (stab [(0, .var [.d (.int .u16 y5.a0), .d (.int .u16 y5.a1), .d (.int .u16 y5.a2), .d (.int .u16 y5.a3), .d (.int .u16 y5.a4), .d (.int .u16 y5.a5), .d (.int .u16 y5.a6), .d (.int .u16 y5.a7)]), (1, .var [.d (.int .u16 0), .d (.int .u16 0), .d (.int .u16 0), .d (.int .u16 0), .d (.int .u16 0), .d (.int .u16 0), .d (.int .u16 0), .d (.int .u16 0)])]) 1 (some (.var [.d (.int .u16 y5.a0), .d (.int .u16 y5.a1), .d (.int .u16 y5.a2), .d (.int .u16 y5.a3), .d (.int .u16 y5.a4), .d (.int .u16 y5.a5), .d (.int .u16 y5.a6), .d (.int .u16 y5.a7)])))) (n' := 2) rfl ?_
    exact RunOps.nil' (Norm.mk [1] (by decide) (by decide) (by decide) ⟨.ptr 0 _ _ (show 0 < 1 by decide), trivial⟩ ⟨⟨show 0 < 1 by decide, _, rfl, .vars ⟨.d _, .d _, .d _, .d _, .d _, .d _, .d _, .d _, trivial⟩⟩, trivial⟩)
  have hh := Option.some.inj h
  subst hh
  refine NWp.ret ?_
  show FQ _ _ _ _
  exact FQ.mk1 (.inr rfl) (res_cell (ds := [.int .u16 y5.a0, .int .u16 y5.a1, .int .u16 y5.a2, .int .u16 y5.a3, .int .u16 y5.a4, .int .u16 y5.a5, .int .u16 y5.a6, .int .u16 y5.a7]) rfl rfl (show 8 ≤ 8 by decide) rfl rfl) (RV.d trivial)

theorem c_ref01_Do {a0 : (A8 Int)} {a1 : (List api_Pair)} {r : (A8 Int)} (h : ref01_Do a0 a1 = some r) : PCall Try.prog 70 [eA8 (D.int .u16) a0, eL (some 2) eapi_Pair a1] (eA8 (D.int .u16) r) := by
  refine PCall.introN ok70 (show 2 ≤ 25 by decide) ?_
  refine NWp.norm (s0 := ⟨tab [(0, .d (eA8 (D.int .u16) a0)), (1, .d (eL (some 2) eapi_Pair a1))], stab [], 0⟩) (Norm.mk [] (by decide) (by decide) (by decide) ⟨.d _, .d _, trivial⟩ trivial) ?_
  refine NWp.opsJ ⟨tab [(1, .d (eL (some 2) eapi_Pair a1)), (2, .ptr 0 0 0), (4, .ptr 1 0 0)], stab [(0, .var [.d (.int .u16 a0.a0), .d (.int .u16 a0.a1), .d (.int .u16 a0.a2), .d (.int .u16 a0.a3), .d (.int .u16 a0.a4), .d (.int .u16 a0.a5), .d (.int .u16 a0.a6), .d (.int .u16 a0.a7)]), (1, .var [.d (.int .u16 0), .d (.int .u16 0), .d (.int .u16 0), .d (.int .u16 0), .d (.int .u16 0), .d (.int .u16 0), .d (.int .u16 0), .d (.int .u16 0)])], 2⟩ ?_ ?_
  · refine step (v := .ptr 0 0 0) (σ' := (upd (stab []) 0 (some (.var [.d (.int .u16 a0.a0), .d (.int .u16 a0.a1), .d (.int .u16 a0.a2), .d (.int .u16 a0.a3), .d (.int .u16 a0.a4), .d (.int .u16 a0.a5), .d (.int .u16 a0.a6), .d (.int .u16 a0.a7)])))) (n' := 1) rfl ?_
    refine step (v := .ptr 1 0 0) (σ' := (upd (upd (stab []) 0 (some (.var [.d (.int .u16 a0.a0), .d (.int .u16 a0.a1), .d (.int .u16 a0.a2), .d (.int .u16 a0.a3), .d (.int .u16 a0.a4), .d (.int .u16 a0.a5), .d (.int .u16 a0.a6), .d (.int .u16 a0.a7)]))) 1 (some (.var [.d (.int .u16 0), .d (.int .u16 0), .d (.int .u16 0), .d (.int .u16 0), .d (.int .u16 0), .d (.int .u16 0), .d (.int .u16 0), .d (.int .u16 0)])))) (n' := 2) rfl ?_
    exact RunOps.nil' (Norm.mk [0, 1] (by decide) (by decide) (by decide) ⟨.d _, .ptr 0 _ _ (show 0 < 2 by decide), .ptr 1 _ _ (show 1 < 2 by decide), trivial⟩ ⟨⟨show 0 < 2 by decide, _, rfl, .vars ⟨.d _, .d _, .d _, .d _, .d _, .d _, .d _, .d _, trivial⟩⟩, ⟨show 1 < 2 by decide, _, rfl, .vars ⟨.d _, .d _, .d _, .d _, .d _, .d _, .d _, .d _, trivial⟩⟩, trivial⟩)
  refine NWp.seq ?_
  refine NWp.opsJ ⟨tab [(1, .d (eL (some 2) eapi_Pair a1)), (2, .ptr 0 0 0), (4, .ptr 1 0 0), (5, .d (.int .i64 0))], stab [(0, .var [.d (.int .u16 a0.a0), .d (.int .u16 a0.a1), .d (.int .u16 a0.a2), .d (.int .u16 a0.a3), .d (.int .u16 a0.a4), .d (.int .u16 a0.a5), .d (.int .u16 a0.a6), .d (.int .u16 a0.a7)]), (1, .var [.d (.int .u16 0), .d (.int .u16 0), .d (.int .u16 0), .d (.int .u16 0), .d (.int .u16 0), .d (.int .u16 0), .d (.int .u16 0), .d (.int .u16 0)])], 2⟩ ?_ ?_
  · refine step (v := .d (.int .i64 0)) rfl ?_
    exact RunOps.nil' (Norm.mk [0, 1] (by decide) (by decide) (by decide) ⟨.d _, .ptr 0 _ _ (show 0 < 2 by decide), .ptr 1 _ _ (show 1 < 2 by decide), .d _, trivial⟩ ⟨⟨show 0 < 2 by decide, _, rfl, .vars ⟨.d _, .d _, .d _, .d _, .d _, .d _, .d _, .d _, trivial⟩⟩, ⟨show 1 < 2 by decide, _, rfl, .vars ⟨.d _, .d _, .d _, .d _, .d _, .d _, .d _, .d _, trivial⟩⟩, trivial⟩)
  obtain ⟨z10, hl, h⟩ := bindE h
  refine NWp.block ?_
  refine loop_forO (cntU (a1.length : Int)) (fun (i1 : Int) (qq : (A8 Int)) => ⟨tab [(1, .d (eL (some 2) eapi_Pair a1)), (2, .ptr 0 0 0), (4, .ptr 1 0 0), (5, .d (.int .i64 i1))], stab [(0, .var [.d (.int .u16 qq.a0), .d (.int .u16 qq.a1), .d (.int .u16 qq.a2), .d (.int .u16 qq.a3), .d (.int .u16 qq.a4), .d (.int .u16 qq.a5), .d (.int .u16 qq.a6), .d (.int .u16 qq.a7)]), (1, .var [.d (.int .u16 0), .d (.int .u16 0), .d (.int .u16 0), .d (.int .u16 0), .d (.int .u16 0), .d (.int .u16 0), .d (.int .u16 0), .d (.int .u16 0)])], 2⟩) 0 (fun (qq : (A8 Int)) => ⟨tab [(2, .ptr 0 0 0), (4, .ptr 1 0 0)], stab [(0, .var [.d (.int .u16 qq.a0), .d (.int .u16 qq.a1), .d (.int .u16 qq.a2), .d (.int .u16 qq.a3), .d (.int .u16 qq.a4), .d (.int .u16 qq.a5), .d (.int .u16 qq.a6), .d (.int .u16 qq.a7)]), (1, .var [.d (.int .u16 0), .d (.int .u16 0), .d (.int .u16 0), .d (.int .u16 0), .d (.int .u16 0), .d (.int .u16 0), .d (.int .u16 0), .d (.int .u16 0)])], 2⟩) Low low_step hl (by unfold Low; omega) ?_ ?_ ?_
  · rintro i1 y2 xr7 hinv5 hgo4 h
    show NWp _ _ _ _ _ ⟨tab [(1, .d (eL (some 2) eapi_Pair a1)), (2, .ptr 0 0 0), (4, .ptr 1 0 0), (5, .d (.int .i64 i1))], stab [(0, .var [.d (.int .u16 y2.a0), .d (.int .u16 y2.a1), .d (.int .u16 y2.a2), .d (.int .u16 y2.a3), .d (.int .u16 y2.a4), .d (.int .u16 y2.a5), .d (.int .u16 y2.a6), .d (.int .u16 y2.a7)]), (1, .var [.d (.int .u16 0), .d (.int .u16 0), .d (.int .u16 0), .d (.int .u16 0), .d (.int .u16 0), .d (.int .u16 0), .d (.int .u16 0), .d (.int .u16 0)])], 2⟩
    have hc6 : decide (i1 < (a1.length : Int)) = true := decide_eq_true hgo4
    refine NWp.seq ?_
    refine NWp.opsJ ⟨tab [(1, .d (eL (some 2) eapi_Pair a1)), (2, .ptr 0 0 0), (4, .ptr 1 0 0), (5, .d (.int .i64 i1)), (8, .d (.int .i64 (a1.length : Int))), (9, .d (.bool (decide (i1 < (a1.length : Int)))))], stab [(0, .var [.d (.int .u16 y2.a0), .d (.int .u16 y2.a1), .d (.int .u16 y2.a2), .d (.int .u16 y2.a3), .d (.int .u16 y2.a4), .d (.int .u16 y2.a5), .d (.int .u16 y2.a6), .d (.int .u16 y2.a7)]), (1, .var [.d (.int .u16 0), .d (.int .u16 0), .d (.int .u16 0), .d (.int .u16 0), .d (.int .u16 0), .d (.int .u16 0), .d (.int .u16 0), .d (.int .u16 0)])], 2⟩ ?_ ?_
    · refine step (v := .d (.int .i64 i1)) rfl ?_
      refine step (v := .d (eL (some 2) eapi_Pair a1)) rfl ?_
      refine step (v := .d (.int .i64 (a1.length : Int))) (st_len (xs := a1) (e := eapi_Pair) rfl) ?_
      refine step (v := .d (.bool (decide (i1 < (a1.length : Int))))) rfl ?_
      exact RunOps.nil' (Norm.mk [0, 1] (by decide) (by decide) (by decide) ⟨.d _, .ptr 0 _ _ (show 0 < 2 by decide), .ptr 1 _ _ (show 1 < 2 by decide), .d _, .d _, .d _, trivial⟩ ⟨⟨show 0 < 2 by decide, _, rfl, .vars ⟨.d _, .d _, .d _, .d _, .d _, .d _, .d _, .d _, trivial⟩⟩, ⟨show 1 < 2 by decide, _, rfl, .vars ⟨.d _, .d _, .d _, .d _, .d _, .d _, .d _, .d _, trivial⟩⟩, trivial⟩)
    refine NWp.rng 8 rfl fun hB3 => ?_
    refine NWp.condT (t := decide (i1 < (a1.length : Int))) rfl hc6 ?_
    refine NWp.skip ?_
    refine NWp.seq ?_
    refine NWp.block ?_
    obtain ⟨x8, hx8, h⟩ := bindE h
    obtain ⟨r9, hr9, h⟩ := bindE h
    refine NWp.opsE ⟨tab [(1, .d (eL (some 2) eapi_Pair a1)), (2, .ptr 0 0 0), (4, .ptr 1 0 0), (5, .d (.int .i64 i1))], stab [(0, .var [.d (.int .u16 r9.a0), .d (.int .u16 r9.a1), .d (.int .u16 r9.a2), .d (.int .u16 r9.a3), .d (.int .u16 r9.a4), .d (.int .u16 r9.a5), .d (.int .u16 r9.a6), .d (.int .u16 r9.a7)]), (1, .var [.d (.int .u16 0), .d (.int .u16 0), .d (.int .u16 0), .d (.int .u16 0), .d (.int .u16 0), .d (.int .u16 0), .d (.int .u16 0), .d (.int .u16 0)])], 2⟩ ?_ ?_
    · refine step (v := .d (eA8 (D.int .u16) y2)) (st_ldV (ds := [.int .u16 y2.a0, .int .u16 y2.a1, .int .u16 y2.a2, .int .u16 y2.a3, .int .u16 y2.a4, .int .u16 y2.a5, .int .u16 y2.a6, .int .u16 y2.a7]) rfl rfl (show 8 ≤ 8 by decide) rfl) ?_
      refine step (v := .d (eL (some 2) eapi_Pair a1)) rfl ?_
      refine step (v := .d (.int .i64 i1)) rfl ?_
      refine step (v := .d (.cptr (some 2) (eapi_Pair x8) 0)) (st_iaddr (xs := a1) (e := eapi_Pair) hx8 rfl rfl) ?_
      refine step (v := .d (.cptr (some 2) (eapi_Pair x8) 0)) rfl ?_
      refine step (v := .d (.int .i64 x8.F)) rfl ?_
      refine step (v := .d (eL (some 2) eapi_Pair a1)) rfl ?_
      refine step (v := .d (.int .i64 i1)) rfl ?_
      refine step (v := .d (.cptr (some 2) (eapi_Pair x8) 0)) (st_iaddr (xs := a1) (e := eapi_Pair) hx8 rfl rfl) ?_
      refine step (v := .d (.cptr (some 2) (eapi_Pair x8) 1)) rfl ?_
      refine step (v := .d (.int .u16 x8.N)) rfl ?_
      refine stepC (r := eA8 (D.int .u16) r9) (ArgsOk.dt (ArgsOk.dt (ArgsOk.dt ArgsOk.nil'))) (c_ref01_With hr9) ?_
      refine step (v := V.undef) (σ' := (upd (stab [(0, .var [.d (.int .u16 y2.a0), .d (.int .u16 y2.a1), .d (.int .u16 y2.a2), .d (.int .u16 y2.a3), .d (.int .u16 y2.a4), .d (.int .u16 y2.a5), .d (.int .u16 y2.a6), .d (.int .u16 y2.a7)]), (1, .var [.d (.int .u16 0), .d (.int .u16 0), .d (.int .u16 0), .d (.int .u16 0), .d (.int .u16 0), .d (.int .u16 0), .d (.int .u16 0), .d (.int .u16 0)])]) 0 (some (.var [.d (.int .u16 r9.a0), .d (.int .u16 r9.a1), .d (.int .u16 r9.a2), .d (.int .u16 r9.a3), .d (.int .u16 r9.a4), .d (.int .u16 r9.a5), .d (.int .u16 r9.a6), .d (.int .u16 r9.a7)])))) (n' := 2) rfl ?_
      exact RunOps.nil' (Norm.mk [0, 1] (by decide) (by decide) (by decide) ⟨.d _, .ptr 0 _ _ (show 0 < 2 by decide), .ptr 1 _ _ (show 1 < 2 by decide), .d _, trivial⟩ ⟨⟨show 0 < 2 by decide, _, rfl, .vars ⟨.d _, .d _, .d _, .d _, .d _, .d _, .d _, .d _, trivial⟩⟩, ⟨show 1 < 2 by decide, _, rfl, .vars ⟨.d _, .d _, .d _, .d _, .d _, .d _, .d _, .d _, trivial⟩⟩, trivial⟩)
    have hh := Option.some.inj h
    subst hh
    refine NWp.opsE ⟨tab [(1, .d (eL (some 2) eapi_Pair a1)), (2, .ptr 0 0 0), (4, .ptr 1 0 0), (5, .d (.int .i64 (i1 + 1)))], stab [(0, .var [.d (.int .u16 r9.a0), .d (.int .u16 r9.a1), .d (.int .u16 r9.a2), .d (.int .u16 r9.a3), .d (.int .u16 r9.a4), .d (.int .u16 r9.a5), .d (.int .u16 r9.a6), .d (.int .u16 r9.a7)]), (1, .var [.d (.int .u16 0), .d (.int .u16 0), .d (.int .u16 0), .d (.int .u16 0), .d (.int .u16 0), .d (.int .u16 0), .d (.int .u16 0), .d (.int .u16 0)])], 2⟩ ?_ ?_
    · refine step (v := .d (.int .i64 i1)) rfl ?_
      refine step (v := .d (.int .i64 (i1 + 1))) (st_inc (inc_ok hinv5 hgo4 hB3) rfl rfl) ?_
      refine step (v := .d (.int .i64 (i1 + 1))) rfl ?_
      exact RunOps.nil' (Norm.mk [0, 1] (by decide) (by decide) (by decide) ⟨.d _, .ptr 0 _ _ (show 0 < 2 by decide), .ptr 1 _ _ (show 1 < 2 by decide), .d _, trivial⟩ ⟨⟨show 0 < 2 by decide, _, rfl, .vars ⟨.d _, .d _, .d _, .d _, .d _, .d _, .d _, .d _, trivial⟩⟩, ⟨show 1 < 2 by decide, _, rfl, .vars ⟨.d _, .d _, .d _, .d _, .d _, .d _, .d _, .d _, trivial⟩⟩, trivial⟩)
    exact And.intro rfl rfl
  · rintro i1 y2 hinv5 hgo4
    show NWp _ _ _ _ _ ⟨tab [(1, .d (eL (some 2) eapi_Pair a1)), (2, .ptr 0 0 0), (4, .ptr 1 0 0), (5, .d (.int .i64 i1))], stab [(0, .var [.d (.int .u16 y2.a0), .d (.int .u16 y2.a1), .d (.int .u16 y2.a2), .d (.int .u16 y2.a3), .d (.int .u16 y2.a4), .d (.int .u16 y2.a5), .d (.int .u16 y2.a6), .d (.int .u16 y2.a7)]), (1, .var [.d (.int .u16 0), .d (.int .u16 0), .d (.int .u16 0), .d (.int .u16 0), .d (.int .u16 0), .d (.int .u16 0), .d (.int .u16 0), .d (.int .u16 0)])], 2⟩
    have hc6 : ¬ (decide (i1 < (a1.length : Int)) = true) := fun hq => hgo4 (of_decide_eq_true hq)
    refine NWp.seq ?_
    refine NWp.opsJ ⟨tab [(1, .d (eL (some 2) eapi_Pair a1)), (2, .ptr 0 0 0), (4, .ptr 1 0 0), (5, .d (.int .i64 i1)), (9, .d (.bool (decide (i1 < (a1.length : Int)))))], stab [(0, .var [.d (.int .u16 y2.a0), .d (.int .u16 y2.a1), .d (.int .u16 y2.a2), .d (.int .u16 y2.a3), .d (.int .u16 y2.a4), .d (.int .u16 y2.a5), .d (.int .u16 y2.a6), .d (.int .u16 y2.a7)]), (1, .var [.d (.int .u16 0), .d (.int .u16 0), .d (.int .u16 0), .d (.int .u16 0), .d (.int .u16 0), .d (.int .u16 0), .d (.int .u16 0), .d (.int .u16 0)])], 2⟩ ?_ ?_
    · refine step (v := .d (.int .i64 i1)) rfl ?_
      refine step (v := .d (eL (some 2) eapi_Pair a1)) rfl ?_
      refine step (v := .d (.int .i64 (a1.length : Int))) (st_len (xs := a1) (e := eapi_Pair) rfl) ?_
      refine step (v := .d (.bool (decide (i1 < (a1.length : Int))))) rfl ?_
      exact RunOps.nil' (Norm.mk [0, 1] (by decide) (by decide) (by decide) ⟨.d _, .ptr 0 _ _ (show 0 < 2 by decide), .ptr 1 _ _ (show 1 < 2 by decide), .d _, .d _, trivial⟩ ⟨⟨show 0 < 2 by decide, _, rfl, .vars ⟨.d _, .d _, .d _, .d _, .d _, .d _, .d _, .d _, trivial⟩⟩, ⟨show 1 < 2 by decide, _, rfl, .vars ⟨.d _, .d _, .d _, .d _, .d _, .d _, .d _, .d _, trivial⟩⟩, trivial⟩)
    refine NWp.condF (t := decide (i1 < (a1.length : Int))) rfl hc6 ?_
    refine NWp.norm (s0 := ⟨tab [(2, .ptr 0 0 0), (4, .ptr 1 0 0)], stab [(0, .var [.d (.int .u16 y2.a0), .d (.int .u16 y2.a1), .d (.int .u16 y2.a2), .d (.int .u16 y2.a3), .d (.int .u16 y2.a4), .d (.int .u16 y2.a5), .d (.int .u16 y2.a6), .d (.int .u16 y2.a7)]), (1, .var [.d (.int .u16 0), .d (.int .u16 0), .d (.int .u16 0), .d (.int .u16 0), .d (.int .u16 0), .d (.int .u16 0), .d (.int .u16 0), .d (.int .u16 0)])], 2⟩) (Norm.mk [0, 1] (by decide) (by decide) (by decide) ⟨.ptr 0 _ _ (show 0 < 2 by decide), .ptr 1 _ _ (show 1 < 2 by decide), trivial⟩ ⟨⟨show 0 < 2 by decide, _, rfl, .vars ⟨.d _, .d _, .d _, .d _, .d _, .d _, .d _, .d _, trivial⟩⟩, ⟨show 1 < 2 by decide, _, rfl, .vars ⟨.d _, .d _, .d _, .d _, .d _, .d _, .d _, .d _, trivial⟩⟩, trivial⟩) ?_
    refine NWp.exit ?_
    exact And.intro rfl rfl
  refine NWp.opsJ ⟨tab [(4, .ptr 0 0 0)], stab [(0, .var [.d (.int .u16 z10.a0), .d (.int .u16 z10.a1), .d (.int .u16 z10.a2), .d (.int .u16 z10.a3), .d (.int .u16 z10.a4), .d (.int .u16 z10.a5), .d (.int .u16 z10.a6), .d (.int .u16 z10.a7)])], 1⟩ ?_ ?_
  · refine step (v := .d (eA8 (D.int .u16) z10)) (st_ldV (ds := [.int .u16 z10.a0, .int .u16 z10.a1, .int .u16 z10.a2, .int .u16 z10.a3, .int .u16 z10.a4, .int .u16 z10.a5, .int .u16 z10.a6, .int .u16 z10.a7]) rfl rfl (show 8 ≤ 8 by decide) rfl) ?_
    refine step (v := V.undef) (σ' := (upd (stab [(0, .var [.d (.int .u16 z10.a0), .d (.int .u16 z10.a1), .d (.int .u16 z10.a2), .d (.int .u16 z10.a3), .d (.int .u16 z10.a4), .d (.int .u16 z10.a5), .d (.int .u16 z10.a6), .d (.int .u16 z10.a7)]), (1, .var [.d (.int .u16 0), .d (.int .u16 0), .d (.int .u16 0), .d (.int .u16 0), .d (.int .u16 0), .d (.int .u16 0), .d (.int .u16 0), .d (.int .u16 0)])]) 1 (some (.var [.d (.int .u16 z10.a0), .d (.int .u16 z10.a1), .d (.int .u16 z10.a2), .d (.int .u16 z10.a3), .d (.int .u16 z10.a4), .d (.int .u16 z10.a5), .d (.int .u16 z10.a6), .d (.int .u16 z10.a7)])))) (n' := 2) rfl ?_
    exact RunOps.nil' (Norm.mk [1] (by decide) (by decide) (by decide) ⟨.ptr 0 _ _ (show 0 < 1 by decide), trivial⟩ ⟨⟨show 0 < 1 by decide, _, rfl, .vars ⟨.d _, .d _, .d _, .d _, .d _, .d _, .d _, .d _, trivial⟩⟩, trivial⟩)
  have hh := Option.some.inj h
  subst hh
  refine NWp.ret ?_
  show FQ _ _ _ _
  exact FQ.mk1 (.inr rfl) (res_cell (ds := [.int .u16 z10.a0, .int .u16 z10.a1, .int .u16 z10.a2, .int .u16 z10.a3, .int .u16 z10.a4, .int .u16 z10.a5, .int .u16 z10.a6, .int .u16 z10.a7]) rfl rfl (show 8 ≤ 8 by decide) rfl rfl) (RV.d trivial)

theorem c_ref01_Compare {a0 : (A8 Int)} {a1 : (A8 Int)} {r : Int} (h : ref01_Compare a0 a1 = some r) : PCall Try.prog 76 [eA8 (D.int .u16) a0, eA8 (D.int .u16) a1] (.int .i64 r) := by
  refine PCall.introN ok76 (show 2 ≤ 24 by decide) ?_
  refine NWp.norm (s0 := ⟨tab [(0, .d (eA8 (D.int .u16) a0)), (1, .d (eA8 (D.int .u16) a1))], stab [], 0⟩) (Norm.mk [] (by decide) (by decide) (by decide) ⟨.d _, .d _, trivial⟩ trivial) ?_
  refine NWp.opsJ ⟨tab [(2, .d (.cptr (some 8) (eA8 (D.int .u16) a0) 0)), (3, .d (.cptr (some 8) (eA8 (D.int .u16) a1) 0))], stab [], 0⟩ ?_ ?_
  · refine step (v := .d (.cptr (some 8) (eA8 (D.int .u16) a0) 0)) rfl ?_
    refine step (v := .d (.cptr (some 8) (eA8 (D.int .u16) a1) 0)) rfl ?_
    refine step (v := .d (.int .i64 0)) rfl ?_
    exact RunOps.nil' (Norm.mk [] (by decide) (by decide) (by decide) ⟨.d _, .d _, trivial⟩ trivial)
  refine NWp.seq ?_
  refine NWp.opsJ ⟨tab [(2, .d (.cptr (some 8) (eA8 (D.int .u16) a0) 0)), (3, .d (.cptr (some 8) (eA8 (D.int .u16) a1) 0)), (5, .d (.int .i64 0))], stab [], 0⟩ ?_ ?_
  · refine step (v := .d (.int .i64 0)) rfl ?_
    exact RunOps.nil' (Norm.mk [] (by decide) (by decide) (by decide) ⟨.d _, .d _, .d _, trivial⟩ trivial)
  obtain ⟨q11, hl, h⟩ := bindE h
  refine NWp.block ?_
  refine loop_forR (cntU 8) (fun (i1 : Int) (qq : Unit) => ⟨tab [(2, .d (.cptr (some 8) (eA8 (D.int .u16) a0) 0)), (3, .d (.cptr (some 8) (eA8 (D.int .u16) a1) 0)), (5, .d (.int .i64 i1))], stab [], 0⟩) 0 (fun (qq : Unit) => ⟨tab [], stab [], 0⟩) Low low_step (r := r) hl (by unfold Low; omega) ?_ ?_ ?_ ?_
  · rintro i1 ⟨⟩ xr6 hinv4 hgo3 h
    show NWp _ _ _ _ _ ⟨tab [(2, .d (.cptr (some 8) (eA8 (D.int .u16) a0) 0)), (3, .d (.cptr (some 8) (eA8 (D.int .u16) a1) 0)), (5, .d (.int .i64 i1))], stab [], 0⟩
    have hc5 : decide (i1 < 8) = true := decide_eq_true hgo3
    refine NWp.seq ?_
    refine NWp.opsJ ⟨tab [(2, .d (.cptr (some 8) (eA8 (D.int .u16) a0) 0)), (3, .d (.cptr (some 8) (eA8 (D.int .u16) a1) 0)), (5, .d (.int .i64 i1)), (7, .d (.bool (decide (i1 < 8))))], stab [], 0⟩ ?_ ?_
    · refine step (v := .d (.int .i64 i1)) rfl ?_
      refine step (v := .d (.bool (decide (i1 < 8)))) rfl ?_
      exact RunOps.nil' (Norm.mk [] (by decide) (by decide) (by decide) ⟨.d _, .d _, .d _, .d _, trivial⟩ trivial)
    refine NWp.condT (t := decide (i1 < 8)) rfl hc5 ?_
    refine NWp.skip ?_
    refine NWp.seq ?_
    refine NWp.block ?_
    refine NWp.seq ?_
    obtain ⟨x7, hx7, h⟩ := bindE h
    obtain ⟨x8, hx8, h⟩ := bindE h
    refine NWp.opsJ ⟨tab [(2, .d (.cptr (some 8) (eA8 (D.int .u16) a0) 0)), (3, .d (.cptr (some 8) (eA8 (D.int .u16) a1) 0)), (5, .d (.int .i64 i1)), (16, .d (.bool (decide (x7 < x8))))], stab [], 0⟩ ?_ ?_
    · refine step (v := .d (.int .i64 i1)) rfl ?_
      refine step (v := .d (.cptr (some 8) (eA8 (D.int .u16) a0) (0 + i1.toNat * 1))) (st_iaddrAC (xs := a0.l) hx7 rfl rfl rfl) ?_
      refine step (v := .d (.int .u16 x7)) (st_ldIC rfl (ld_arr (e := (D.int .u16)) (xs := a0.l) (pre := []) (post := []) hx7 rfl (by decide))) ?_
      refine step (v := .d (.int .i64 i1)) rfl ?_
      refine step (v := .d (.cptr (some 8) (eA8 (D.int .u16) a1) (0 + i1.toNat * 1))) (st_iaddrAC (xs := a1.l) hx8 rfl rfl rfl) ?_
      refine step (v := .d (.int .u16 x8)) (st_ldIC rfl (ld_arr (e := (D.int .u16)) (xs := a1.l) (pre := []) (post := []) hx8 rfl (by decide))) ?_
      refine step (v := .d (.bool (decide (x7 < x8)))) rfl ?_
      exact RunOps.nil' (Norm.mk [] (by decide) (by decide) (by decide) ⟨.d _, .d _, .d _, .d _, trivial⟩ trivial)
    by_cases hc9 : decide (x7 < x8) = true
    · replace h := iteT hc9 h
      refine NWp.condT (t := decide (x7 < x8)) rfl hc9 ?_
      refine NWp.opsJ ⟨tab [(4, .d (.int .i64 (-1)))], stab [], 0⟩ ?_ ?_
      · refine step (v := .d (.int .i64 (-1))) rfl ?_
        exact RunOps.nil' (Norm.mk [] (by decide) (by decide) (by decide) ⟨.d _, trivial⟩ trivial)
      obtain ⟨r10, kr10, hr⟩ := mapE (o := some (-1)) (g := Br.ret) h
      subst hr
      have h := kr10
      have hh := Option.some.inj h
      subst hh
      refine NWp.ret ?_
      refine And.intro (fun hn => nomatch hn) ?_
      intro hq
      have hq := hq.symm
      subst hq
      show FQ _ _ _ _
      exact FQ.mk1 (.inr rfl) (res_t (v := .d (.int .i64 (-1))) rfl rfl) (RV.d trivial)
    · replace h := iteF hc9 h
      refine NWp.condF (t := decide (x7 < x8)) rfl hc9 ?_
      refine NWp.skip ?_
      refine NWp.opsJ ⟨tab [(2, .d (.cptr (some 8) (eA8 (D.int .u16) a0) 0)), (3, .d (.cptr (some 8) (eA8 (D.int .u16) a1) 0)), (5, .d (.int .i64 i1)), (23, .d (.bool (decide (x7 > x8))))], stab [], 0⟩ ?_ ?_
      · refine step (v := .d (.int .i64 i1)) rfl ?_
        refine step (v := .d (.cptr (some 8) (eA8 (D.int .u16) a0) (0 + i1.toNat * 1))) (st_iaddrAC (xs := a0.l) hx7 rfl rfl rfl) ?_
        refine step (v := .d (.int .u16 x7)) (st_ldIC rfl (ld_arr (e := (D.int .u16)) (xs := a0.l) (pre := []) (post := []) hx7 rfl (by decide))) ?_
        refine step (v := .d (.int .i64 i1)) rfl ?_
        refine step (v := .d (.cptr (some 8) (eA8 (D.int .u16) a1) (0 + i1.toNat * 1))) (st_iaddrAC (xs := a1.l) hx8 rfl rfl rfl) ?_
        refine step (v := .d (.int .u16 x8)) (st_ldIC rfl (ld_arr (e := (D.int .u16)) (xs := a1.l) (pre := []) (post := []) hx8 rfl (by decide))) ?_
        refine step (v := .d (.bool (decide (x7 > x8)))) rfl ?_
        exact RunOps.nil' (Norm.mk [] (by decide) (by decide) (by decide) ⟨.d _, .d _, .d _, .d _, trivial⟩ trivial)
      by_cases hc10 : decide (x7 > x8) = true
      · replace h := iteT hc10 h
        refine NWp.condT (t := decide (x7 > x8)) rfl hc10 ?_
        refine NWp.opsJ ⟨tab [(4, .d (.int .i64 1))], stab [], 0⟩ ?_ ?_
        · refine step (v := .d (.int .i64 1)) rfl ?_
          exact RunOps.nil' (Norm.mk [] (by decide) (by decide) (by decide) ⟨.d _, trivial⟩ trivial)
        obtain ⟨r11, kr11, hr⟩ := mapE (o := some 1) (g := Br.ret) h
        subst hr
        have h := kr11
        have hh := Option.some.inj h
        subst hh
        refine NWp.ret ?_
        refine And.intro (fun hn => nomatch hn) ?_
        intro hq
        have hq := hq.symm
        subst hq
        show FQ _ _ _ _
        exact FQ.mk1 (.inr rfl) (res_t (v := .d (.int .i64 1)) rfl rfl) (RV.d trivial)
      · replace h := iteF hc10 h
        refine NWp.condF (t := decide (x7 > x8)) rfl hc10 ?_
        refine NWp.skip ?_
        have hh := Option.some.inj h
        subst hh
        refine NWp.opsE ⟨tab [(2, .d (.cptr (some 8) (eA8 (D.int .u16) a0) 0)), (3, .d (.cptr (some 8) (eA8 (D.int .u16) a1) 0)), (5, .d (.int .i64 (i1 + 1)))], stab [], 0⟩ ?_ ?_
        · refine step (v := .d (.int .i64 i1)) rfl ?_
          refine step (v := .d (.int .i64 (i1 + 1))) (st_inc (inc_ok hinv4 hgo3 (by decide)) rfl rfl) ?_
          refine step (v := .d (.int .i64 (i1 + 1))) rfl ?_
          exact RunOps.nil' (Norm.mk [] (by decide) (by decide) (by decide) ⟨.d _, .d _, .d _, trivial⟩ trivial)
        exact And.intro rfl rfl
  · rintro i1 ⟨⟩ hinv4 hgo3
    show NWp _ _ _ _ _ ⟨tab [(2, .d (.cptr (some 8) (eA8 (D.int .u16) a0) 0)), (3, .d (.cptr (some 8) (eA8 (D.int .u16) a1) 0)), (5, .d (.int .i64 i1))], stab [], 0⟩
    have hc5 : ¬ (decide (i1 < 8) = true) := fun hq => hgo3 (of_decide_eq_true hq)
    refine NWp.seq ?_
    refine NWp.opsJ ⟨tab [(2, .d (.cptr (some 8) (eA8 (D.int .u16) a0) 0)), (3, .d (.cptr (some 8) (eA8 (D.int .u16) a1) 0)), (5, .d (.int .i64 i1)), (7, .d (.bool (decide (i1 < 8))))], stab [], 0⟩ ?_ ?_
    · refine step (v := .d (.int .i64 i1)) rfl ?_
      refine step (v := .d (.bool (decide (i1 < 8)))) rfl ?_
      exact RunOps.nil' (Norm.mk [] (by decide) (by decide) (by decide) ⟨.d _, .d _, .d _, .d _, trivial⟩ trivial)
    refine NWp.condF (t := decide (i1 < 8)) rfl hc5 ?_
    refine NWp.norm (s0 := ⟨tab [], stab [], 0⟩) (Norm.mk [] (by decide) (by decide) (by decide) trivial trivial) ?_
    refine NWp.exit ?_
    exact And.intro rfl rfl
  · intro r' hq
    subst hq
    exact Option.some.inj h
  rintro ⟨⟩ rfl
  refine NWp.opsJ ⟨tab [(4, .d (.int .i64 0))], stab [], 0⟩ ?_ ?_
  · refine step (v := .d (.int .i64 0)) rfl ?_
    exact RunOps.nil' (Norm.mk [] (by decide) (by decide) (by decide) ⟨.d _, trivial⟩ trivial)
  have hh := Option.some.inj h
  subst hh
  refine NWp.ret ?_
  show FQ _ _ _ _
  exact FQ.mk1 (.inr rfl) (res_t (v := .d (.int .i64 0)) rfl rfl) (RV.d trivial)

theorem c_ref01_Add {a0 : (List (A8 Int))} {a1 : (A8 Int)} {r : (List (A8 Int))} (h : ref01_Add a0 a1 = some r) : PCall Try.prog 69 [eL (some 8) (eA8 (D.int .u16)) a0, eA8 (D.int .u16) a1] (eL (some 8) (eA8 (D.int .u16)) r) := by
  refine PCall.introN ok69 (show 2 ≤ 47 by decide) ?_
  refine NWp.norm (s0 := ⟨tab [(0, .d (eL (some 8) (eA8 (D.int .u16)) a0)), (1, .d (eA8 (D.int .u16) a1))], stab [], 0⟩) (Norm.mk [] (by decide) (by decide) (by decide) ⟨.d _, .d _, trivial⟩ trivial) ?_
  refine NWp.opsJ ⟨tab [(0, .d (eL (some 8) (eA8 (D.int .u16)) a0)), (3, .d (.cptr (some 8) (eA8 (D.int .u16) a1) 0))], stab [], 0⟩ ?_ ?_
  · refine step (v := .d (.cptr (some 8) (eA8 (D.int .u16) a1) 0)) rfl ?_
    refine step (v := .d (eL (some 8) (eA8 (D.int .u16)) ([] : List (A8 Int)))) rfl ?_
    exact RunOps.nil' (Norm.mk [] (by decide) (by decide) (by decide) ⟨.d _, .d _, trivial⟩ trivial)
  refine NWp.opsJ ⟨tab [(0, .d (eL (some 8) (eA8 (D.int .u16)) a0)), (3, .d (.cptr (some 8) (eA8 (D.int .u16) a1) 0)), (5, .d (.nils))], stab [], 0⟩ ?_ ?_
  · refine step (v := .d (.nils)) rfl ?_
    exact RunOps.nil' (Norm.mk [] (by decide) (by decide) (by decide) ⟨.d _, .d _, .d _, trivial⟩ trivial)
  refine NWp.opsJ ⟨tab [(0, .d (eL (some 8) (eA8 (D.int .u16)) a0)), (3, .d (.cptr (some 8) (eA8 (D.int .u16) a1) 0)), (5, .d (.nils)), (6, .d (.bool false))], stab [], 0⟩ ?_ ?_
  · refine step (v := .d (.bool false)) rfl ?_
    exact RunOps.nil' (Norm.mk [] (by decide) (by decide) (by decide) ⟨.d _, .d _, .d _, .d _, trivial⟩ trivial)
  refine NWp.seq ?_
  refine NWp.opsJ ⟨tab [(0, .d (eL (some 8) (eA8 (D.int .u16)) a0)), (3, .d (.cptr (some 8) (eA8 (D.int .u16) a1) 0)), (5, .d (.nils)), (6, .d (.bool false)), (7, .d (.int .i64 0))], stab [], 0⟩ ?_ ?_
  · refine step (v := .d (.int .i64 0)) rfl ?_
    exact RunOps.nil' (Norm.mk [] (by decide) (by decide) (by decide) ⟨.d _, .d _, .d _, .d _, .d _, trivial⟩ trivial)
  obtain ⟨q28, hl, h⟩ := bindE h
  obtain ⟨z22, z23⟩ := q28
  refine NWp.norm (s0 := ⟨tab [(0, .d (eL (some 8) (eA8 (D.int .u16)) a0)), (3, .d (.cptr (some 8) (eA8 (D.int .u16) a1) 0)), (5, .loc 0 0 (([] : List (A8 Int)).length)), (6, .d (.bool false)), (7, .d (.int .i64 0))], stab [(0, .lst false (some 8) (List.map (eA8 (D.int .u16)) ([] : List (A8 Int))))], 1⟩) (Norm.trans (s2 := ⟨tab [(0, .d (eL (some 8) (eA8 (D.int .u16)) a0)), (3, .d (.cptr (some 8) (eA8 (D.int .u16) a1) 0)), (5, .loc 0 0 (([] : List (A8 Int)).length)), (6, .d (.bool false)), (7, .d (.int .i64 0))], stab [(0, .lst false (some 8) (List.map (eA8 (D.int .u16)) ([] : List (A8 Int))))], 1⟩) (Norm.nil1 5 false (some 8) rfl) (Norm.mk [0] (by decide) (by decide) (by decide) ⟨.d _, .d _, .loc 0 _ _ (show 0 < 1 by decide), .d _, .d _, trivial⟩ ⟨⟨show 0 < 1 by decide, _, rfl, .lst _ _ _⟩, trivial⟩)) ?_
  refine NWp.block ?_
  refine loop_forO (cntU (a0.length : Int)) (fun (i3 : Int) (qq : ((List (A8 Int)) × Bool)) => ⟨tab [(0, .d (eL (some 8) (eA8 (D.int .u16)) a0)), (3, .d (.cptr (some 8) (eA8 (D.int .u16) a1) 0)), (5, .loc 0 0 qq.1.length), (6, .d (.bool qq.2)), (7, .d (.int .i64 i3))], stab [(0, .lst false (some 8) (List.map (eA8 (D.int .u16)) qq.1))], 1⟩) 0 (fun (qq : ((List (A8 Int)) × Bool)) => ⟨tab [(3, .d (.cptr (some 8) (eA8 (D.int .u16) a1) 0)), (5, .loc 0 0 qq.1.length), (6, .d (.bool qq.2))], stab [(0, .lst false (some 8) (List.map (eA8 (D.int .u16)) qq.1))], 1⟩) Low low_step hl (by unfold Low; omega) ?_ ?_ ?_
  · rintro i3 ⟨l1, y2⟩ xr8 hinv6 hgo5 h
    show NWp _ _ _ _ _ ⟨tab [(0, .d (eL (some 8) (eA8 (D.int .u16)) a0)), (3, .d (.cptr (some 8) (eA8 (D.int .u16) a1) 0)), (5, .loc 0 0 l1.length), (6, .d (.bool y2)), (7, .d (.int .i64 i3))], stab [(0, .lst false (some 8) (List.map (eA8 (D.int .u16)) l1))], 1⟩
    have hc7 : decide (i3 < (a0.length : Int)) = true := decide_eq_true hgo5
    refine NWp.seq ?_
    refine NWp.opsJ ⟨tab [(0, .d (eL (some 8) (eA8 (D.int .u16)) a0)), (3, .d (.cptr (some 8) (eA8 (D.int .u16) a1) 0)), (5, .loc 0 0 l1.length), (6, .d (.bool y2)), (7, .d (.int .i64 i3)), (11, .d (.int .i64 (a0.length : Int))), (12, .d (.bool (decide (i3 < (a0.length : Int)))))], stab [(0, .lst false (some 8) (List.map (eA8 (D.int .u16)) l1))], 1⟩ ?_ ?_
    · refine step (v := .d (.int .i64 i3)) rfl ?_
      refine step (v := .d (eL (some 8) (eA8 (D.int .u16)) a0)) rfl ?_
      refine step (v := .d (.int .i64 (a0.length : Int))) (st_len (xs := a0) (e := (eA8 (D.int .u16))) rfl) ?_
      refine step (v := .d (.bool (decide (i3 < (a0.length : Int))))) rfl ?_
      exact RunOps.nil' (Norm.mk [0] (by decide) (by decide) (by decide) ⟨.d _, .d _, .loc 0 _ _ (show 0 < 1 by decide), .d _, .d _, .d _, .d _, trivial⟩ ⟨⟨show 0 < 1 by decide, _, rfl, .lst _ _ _⟩, trivial⟩)
    refine NWp.rng 11 rfl fun hB4 => ?_
    refine NWp.condT (t := decide (i3 < (a0.length : Int))) rfl hc7 ?_
    refine NWp.skip ?_
    obtain ⟨q21, hv, h⟩ := bindE h
    obtain ⟨l19, y20⟩ := q21
    refine NWp.seqN ⟨tab [(0, .d (eL (some 8) (eA8 (D.int .u16)) a0)), (3, .d (.cptr (some 8) (eA8 (D.int .u16) a1) 0)), (5, .loc 0 0 l19.length), (6, .d (.bool y20)), (7, .d (.int .i64 i3))], stab [(0, .lst false (some 8) (List.map (eA8 (D.int .u16)) l19))], 1⟩ ?_ ?_
    · replace h := hv
      refine NWp.block ?_
      obtain ⟨x9, hx9, h⟩ := bindE h
      obtain ⟨r10, hr10, h⟩ := bindE h
      refine NWp.opsJ ⟨tab [(0, .d (eL (some 8) (eA8 (D.int .u16)) a0)), (3, .d (.cptr (some 8) (eA8 (D.int .u16) a1) 0)), (5, .loc 0 0 l1.length), (6, .d (.bool y2)), (7, .d (.int .i64 i3)), (8, .d (.int .i64 r10))], stab [(0, .lst false (some 8) (List.map (eA8 (D.int .u16)) l1))], 1⟩ ?_ ?_
      · refine step (v := .d (eA8 (D.int .u16) a1)) rfl ?_
        refine step (v := .d (eL (some 8) (eA8 (D.int .u16)) a0)) rfl ?_
        refine step (v := .d (.int .i64 i3)) rfl ?_
        refine step (v := .d (.cptr (some 8) (eA8 (D.int .u16) x9) 0)) (st_iaddr (xs := a0) (e := (eA8 (D.int .u16))) hx9 rfl rfl) ?_
        refine step (v := .d (eA8 (D.int .u16) x9)) rfl ?_
        refine stepC (r := .int .i64 r10) (ArgsOk.dt (ArgsOk.dt ArgsOk.nil')) (c_ref01_Compare hr10) ?_
        refine step (v := .d (.int .i64 r10)) rfl ?_
        exact RunOps.nil' (Norm.mk [0] (by decide) (by decide) (by decide) ⟨.d _, .d _, .loc 0 _ _ (show 0 < 1 by decide), .d _, .d _, .d _, trivial⟩ ⟨⟨show 0 < 1 by decide, _, rfl, .lst _ _ _⟩, trivial⟩)
      obtain ⟨q16, hv, h⟩ := bindE h
      obtain ⟨l14, y15⟩ := q16
      refine NWp.seqN ⟨tab [(0, .d (eL (some 8) (eA8 (D.int .u16)) a0)), (3, .d (.cptr (some 8) (eA8 (D.int .u16) a1) 0)), (5, .loc 0 0 l14.length), (6, .d (.bool y15)), (7, .d (.int .i64 i3)), (8, .d (.int .i64 r10))], stab [(0, .lst false (some 8) (List.map (eA8 (D.int .u16)) l14))], 1⟩ ?_ ?_
      · replace h := hv
        refine NWp.opsJ ⟨tab [(0, .d (eL (some 8) (eA8 (D.int .u16)) a0)), (3, .d (.cptr (some 8) (eA8 (D.int .u16) a1) 0)), (5, .loc 0 0 l1.length), (6, .d (.bool y2)), (7, .d (.int .i64 i3)), (8, .d (.int .i64 r10)), (26, .d (.bool ((!y2) && (decide (r10 ≤ 0)))))], stab [(0, .lst false (some 8) (List.map (eA8 (D.int .u16)) l1))], 1⟩ ?_ ?_
        · refine step (v := .d (.bool y2)) rfl ?_
          refine step (v := .d (.bool (!y2))) rfl ?_
          refine step (v := .d (.bool (!y2))) rfl ?_
          by_cases hg11 : (!y2) = true
          · refine stepG (c := (!y2)) rfl hg11 ?_
            refine step (v := .d (.int .i64 r10)) rfl ?_
            refine stepG (c := (!y2)) rfl hg11 ?_
            refine step (v := .d (.bool (decide (r10 ≤ 0)))) rfl ?_
            refine step (v := .d (.bool (decide (r10 ≤ 0)))) (st_pickT (b := (!y2)) rfl hg11 rfl) ?_
            exact RunOps.nil' (Norm.mk [0] (by decide) (by decide) (by decide) ⟨.d _, .d _, .loc 0 _ _ (show 0 < 1 by decide), .d _, .d _, .d _, .eq (by simp [hg11]), trivial⟩ ⟨⟨show 0 < 1 by decide, _, rfl, .lst _ _ _⟩, trivial⟩)
          · refine stepX (c := (!y2)) rfl hg11 ?_
            refine stepX (c := (!y2)) rfl hg11 ?_
            refine step (v := .d (.bool false)) (st_pickF (b := (!y2)) rfl hg11 rfl) ?_
            exact RunOps.nil' (Norm.mk [0] (by decide) (by decide) (by decide) ⟨.d _, .d _, .loc 0 _ _ (show 0 < 1 by decide), .d _, .d _, .d _, .eq (by simp [hg11]), trivial⟩ ⟨⟨show 0 < 1 by decide, _, rfl, .lst _ _ _⟩, trivial⟩)
        by_cases hc12 : ((!y2) && (decide (r10 ≤ 0))) = true
        · replace h := iteT hc12 h
          refine NWp.condT (t := ((!y2) && (decide (r10 ≤ 0)))) rfl hc12 ?_
          obtain ⟨l13, hl13, h⟩ := bindE h
          refine NWp.opsJ ⟨tab [(0, .d (eL (some 8) (eA8 (D.int .u16)) a0)), (3, .d (.cptr (some 8) (eA8 (D.int .u16) a1) 0)), (5, .loc 0 0 l13.length), (7, .d (.int .i64 i3)), (8, .d (.int .i64 r10))], stab [(0, .lst false (some 8) (List.map (eA8 (D.int .u16)) l13))], 1⟩ ?_ ?_
          · refine step (v := .loc 0 0 l1.length) rfl ?_
            refine step (v := .d (eA8 (D.int .u16) a1)) rfl ?_
            refine step (v := .d (eL (some 8) (eA8 (D.int .u16)) ([a1] : List (A8 Int)))) rfl ?_
            refine step (v := .loc 1 0 l13.length) (σ' := (upd (upd (stab [(0, .lst false (some 8) (List.map (eA8 (D.int .u16)) l1))]) 0 none) 1 (some (.lst false (some 8) (List.map (eA8 (D.int .u16)) l13))))) (n' := 2) (st_app (xs := l1) (ys := ([a1] : List (A8 Int))) (e := (eA8 (D.int .u16))) hl13 rfl rfl rfl (src_v (xs := ([a1] : List (A8 Int))) (e := (eA8 (D.int .u16))) rfl)) ?_
            refine step (v := .loc 1 0 l13.length) rfl ?_
            exact RunOps.nil' (Norm.mk [1] (by decide) (by decide) (by decide) ⟨.d _, .d _, .loc 0 _ _ (show 0 < 1 by decide), .d _, .d _, trivial⟩ ⟨⟨show 0 < 1 by decide, _, rfl, .lst _ _ _⟩, trivial⟩)
          have hh := Option.some.inj h
          obtain ⟨he0, ht0⟩ := Prod.mk.inj hh
          subst he0
          subst ht0
          refine NWp.opsE ⟨tab [(0, .d (eL (some 8) (eA8 (D.int .u16)) a0)), (3, .d (.cptr (some 8) (eA8 (D.int .u16) a1) 0)), (5, .loc 0 0 l13.length), (6, .d (.bool true)), (7, .d (.int .i64 i3)), (8, .d (.int .i64 r10))], stab [(0, .lst false (some 8) (List.map (eA8 (D.int .u16)) l13))], 1⟩ ?_ ?_
          · refine step (v := .d (.bool true)) rfl ?_
            exact RunOps.nil' (Norm.mk [0] (by decide) (by decide) (by decide) ⟨.d _, .d _, .loc 0 _ _ (show 0 < 1 by decide), .d _, .d _, .d _, trivial⟩ ⟨⟨show 0 < 1 by decide, _, rfl, .lst _ _ _⟩, trivial⟩)
          exact And.intro rfl rfl
        · replace h := iteF hc12 h
          refine NWp.condF (t := ((!y2) && (decide (r10 ≤ 0)))) rfl hc12 ?_
          have hh := Option.some.inj h
          obtain ⟨he0, ht0⟩ := Prod.mk.inj hh
          subst he0
          subst ht0
          refine NWp.norm (s0 := ⟨tab [(0, .d (eL (some 8) (eA8 (D.int .u16)) a0)), (3, .d (.cptr (some 8) (eA8 (D.int .u16) a1) 0)), (5, .loc 0 0 l1.length), (6, .d (.bool y2)), (7, .d (.int .i64 i3)), (8, .d (.int .i64 r10))], stab [(0, .lst false (some 8) (List.map (eA8 (D.int .u16)) l1))], 1⟩) (Norm.mk [0] (by decide) (by decide) (by decide) ⟨.d _, .d _, .loc 0 _ _ (show 0 < 1 by decide), .d _, .d _, .d _, trivial⟩ ⟨⟨show 0 < 1 by decide, _, rfl, .lst _ _ _⟩, trivial⟩) ?_
          refine NWp.skip ?_
          exact And.intro rfl rfl
      refine NWp.opsJ ⟨tab [(0, .d (eL (some 8) (eA8 (D.int .u16)) a0)), (3, .d (.cptr (some 8) (eA8 (D.int .u16) a1) 0)), (5, .loc 0 0 l14.length), (6, .d (.bool y15)), (7, .d (.int .i64 i3)), (32, .d (.bool (r10 != 0)))], stab [(0, .lst false (some 8) (List.map (eA8 (D.int .u16)) l14))], 1⟩ ?_ ?_
      · refine step (v := .d (.int .i64 r10)) rfl ?_
        refine step (v := .d (.bool (r10 != 0))) rfl ?_
        exact RunOps.nil' (Norm.mk [0] (by decide) (by decide) (by decide) ⟨.d _, .d _, .loc 0 _ _ (show 0 < 1 by decide), .d _, .d _, .d _, trivial⟩ ⟨⟨show 0 < 1 by decide, _, rfl, .lst _ _ _⟩, trivial⟩)
      by_cases hc17 : (r10 != 0) = true
      · replace h := iteT hc17 h
        refine NWp.condT (t := (r10 != 0)) rfl hc17 ?_
        obtain ⟨l18, hl18, h⟩ := bindE h
        have hh := Option.some.inj h
        obtain ⟨he0, ht0⟩ := Prod.mk.inj hh
        subst he0
        subst ht0
        refine NWp.opsE ⟨tab [(0, .d (eL (some 8) (eA8 (D.int .u16)) a0)), (3, .d (.cptr (some 8) (eA8 (D.int .u16) a1) 0)), (5, .loc 0 0 l18.length), (6, .d (.bool y15)), (7, .d (.int .i64 i3))], stab [(0, .lst false (some 8) (List.map (eA8 (D.int .u16)) l18))], 1⟩ ?_ ?_
        · refine step (v := .loc 0 0 l14.length) rfl ?_
          refine step (v := .d (eL (some 8) (eA8 (D.int .u16)) a0)) rfl ?_
          refine step (v := .d (.int .i64 i3)) rfl ?_
          refine step (v := .d (.cptr (some 8) (eA8 (D.int .u16) x9) 0)) (st_iaddr (xs := a0) (e := (eA8 (D.int .u16))) hx9 rfl rfl) ?_
          refine step (v := .d (eA8 (D.int .u16) x9)) rfl ?_
          refine step (v := .d (eL (some 8) (eA8 (D.int .u16)) ([x9] : List (A8 Int)))) rfl ?_
          refine step (v := .loc 1 0 l18.length) (σ' := (upd (upd (stab [(0, .lst false (some 8) (List.map (eA8 (D.int .u16)) l14))]) 0 none) 1 (some (.lst false (some 8) (List.map (eA8 (D.int .u16)) l18))))) (n' := 2) (st_app (xs := l14) (ys := ([x9] : List (A8 Int))) (e := (eA8 (D.int .u16))) hl18 rfl rfl rfl (src_v (xs := ([x9] : List (A8 Int))) (e := (eA8 (D.int .u16))) rfl)) ?_
          refine step (v := .loc 1 0 l18.length) rfl ?_
          exact RunOps.nil' (Norm.mk [1] (by decide) (by decide) (by decide) ⟨.d _, .d _, .loc 0 _ _ (show 0 < 1 by decide), .d _, .d _, trivial⟩ ⟨⟨show 0 < 1 by decide, _, rfl, .lst _ _ _⟩, trivial⟩)
        exact And.intro rfl rfl
      · replace h := iteF hc17 h
        refine NWp.condF (t := (r10 != 0)) rfl hc17 ?_
        have hh := Option.some.inj h
        obtain ⟨he0, ht0⟩ := Prod.mk.inj hh
        subst he0
        subst ht0
        refine NWp.norm (s0 := ⟨tab [(0, .d (eL (some 8) (eA8 (D.int .u16)) a0)), (3, .d (.cptr (some 8) (eA8 (D.int .u16) a1) 0)), (5, .loc 0 0 l14.length), (6, .d (.bool y15)), (7, .d (.int .i64 i3))], stab [(0, .lst false (some 8) (List.map (eA8 (D.int .u16)) l14))], 1⟩) (Norm.mk [0] (by decide) (by decide) (by decide) ⟨.d _, .d _, .loc 0 _ _ (show 0 < 1 by decide), .d _, .d _, trivial⟩ ⟨⟨show 0 < 1 by decide, _, rfl, .lst _ _ _⟩, trivial⟩) ?_
        refine NWp.skip ?_
        exact And.intro rfl rfl
    have hh := Option.some.inj h
    subst hh
    refine NWp.opsE ⟨tab [(0, .d (eL (some 8) (eA8 (D.int .u16)) a0)), (3, .d (.cptr (some 8) (eA8 (D.int .u16) a1) 0)), (5, .loc 0 0 l19.length), (6, .d (.bool y20)), (7, .d (.int .i64 (i3 + 1)))], stab [(0, .lst false (some 8) (List.map (eA8 (D.int .u16)) l19))], 1⟩ ?_ ?_
    · refine step (v := .d (.int .i64 i3)) rfl ?_
      refine step (v := .d (.int .i64 (i3 + 1))) (st_inc (inc_ok hinv6 hgo5 hB4) rfl rfl) ?_
      refine step (v := .d (.int .i64 (i3 + 1))) rfl ?_
      exact RunOps.nil' (Norm.mk [0] (by decide) (by decide) (by decide) ⟨.d _, .d _, .loc 0 _ _ (show 0 < 1 by decide), .d _, .d _, trivial⟩ ⟨⟨show 0 < 1 by decide, _, rfl, .lst _ _ _⟩, trivial⟩)
    exact And.intro rfl rfl
  · rintro i3 ⟨l1, y2⟩ hinv6 hgo5
    show NWp _ _ _ _ _ ⟨tab [(0, .d (eL (some 8) (eA8 (D.int .u16)) a0)), (3, .d (.cptr (some 8) (eA8 (D.int .u16) a1) 0)), (5, .loc 0 0 l1.length), (6, .d (.bool y2)), (7, .d (.int .i64 i3))], stab [(0, .lst false (some 8) (List.map (eA8 (D.int .u16)) l1))], 1⟩
    have hc7 : ¬ (decide (i3 < (a0.length : Int)) = true) := fun hq => hgo5 (of_decide_eq_true hq)
    refine NWp.seq ?_
    refine NWp.opsJ ⟨tab [(0, .d (eL (some 8) (eA8 (D.int .u16)) a0)), (3, .d (.cptr (some 8) (eA8 (D.int .u16) a1) 0)), (5, .loc 0 0 l1.length), (6, .d (.bool y2)), (7, .d (.int .i64 i3)), (12, .d (.bool (decide (i3 < (a0.length : Int)))))], stab [(0, .lst false (some 8) (List.map (eA8 (D.int .u16)) l1))], 1⟩ ?_ ?_
    · refine step (v := .d (.int .i64 i3)) rfl ?_
      refine step (v := .d (eL (some 8) (eA8 (D.int .u16)) a0)) rfl ?_
      refine step (v := .d (.int .i64 (a0.length : Int))) (st_len (xs := a0) (e := (eA8 (D.int .u16))) rfl) ?_
      refine step (v := .d (.bool (decide (i3 < (a0.length : Int))))) rfl ?_
      exact RunOps.nil' (Norm.mk [0] (by decide) (by decide) (by decide) ⟨.d _, .d _, .loc 0 _ _ (show 0 < 1 by decide), .d _, .d _, .d _, trivial⟩ ⟨⟨show 0 < 1 by decide, _, rfl, .lst _ _ _⟩, trivial⟩)
    refine NWp.condF (t := decide (i3 < (a0.length : Int))) rfl hc7 ?_
    refine NWp.norm (s0 := ⟨tab [(3, .d (.cptr (some 8) (eA8 (D.int .u16) a1) 0)), (5, .loc 0 0 l1.length), (6, .d (.bool y2))], stab [(0, .lst false (some 8) (List.map (eA8 (D.int .u16)) l1))], 1⟩) (Norm.mk [0] (by decide) (by decide) (by decide) ⟨.d _, .loc 0 _ _ (show 0 < 1 by decide), .d _, trivial⟩ ⟨⟨show 0 < 1 by decide, _, rfl, .lst _ _ _⟩, trivial⟩) ?_
    refine NWp.exit ?_
    exact And.intro rfl rfl
  obtain ⟨l26, hv, h⟩ := bindE h
  refine NWp.seqN ⟨tab [(5, .loc 0 0 l26.length)], stab [(0, .lst false (some 8) (List.map (eA8 (D.int .u16)) l26))], 1⟩ ?_ ?_
  · replace h := hv
    refine NWp.opsJ ⟨tab [(3, .d (.cptr (some 8) (eA8 (D.int .u16) a1) 0)), (5, .loc 0 0 z22.length), (41, .d (.bool (!z23)))], stab [(0, .lst false (some 8) (List.map (eA8 (D.int .u16)) z22))], 1⟩ ?_ ?_
    · refine step (v := .d (.bool z23)) rfl ?_
      refine step (v := .d (.bool (!z23))) rfl ?_
      exact RunOps.nil' (Norm.mk [0] (by decide) (by decide) (by decide) ⟨.d _, .loc 0 _ _ (show 0 < 1 by decide), .d _, trivial⟩ ⟨⟨show 0 < 1 by decide, _, rfl, .lst _ _ _⟩, trivial⟩)
    by_cases hc24 : (!z23) = true
    · replace h := iteT hc24 h
      refine NWp.condT (t := (!z23)) rfl hc24 ?_
      obtain ⟨l25, hl25, h⟩ := bindE h
      have hh := Option.some.inj h
      subst hh
      refine NWp.opsE ⟨tab [(5, .loc 0 0 l25.length)], stab [(0, .lst false (some 8) (List.map (eA8 (D.int .u16)) l25))], 1⟩ ?_ ?_
      · refine step (v := .loc 0 0 z22.length) rfl ?_
        refine step (v := .d (eA8 (D.int .u16) a1)) rfl ?_
        refine step (v := .d (eL (some 8) (eA8 (D.int .u16)) ([a1] : List (A8 Int)))) rfl ?_
        refine step (v := .loc 1 0 l25.length) (σ' := (upd (upd (stab [(0, .lst false (some 8) (List.map (eA8 (D.int .u16)) z22))]) 0 none) 1 (some (.lst false (some 8) (List.map (eA8 (D.int .u16)) l25))))) (n' := 2) (st_app (xs := z22) (ys := ([a1] : List (A8 Int))) (e := (eA8 (D.int .u16))) hl25 rfl rfl rfl (src_v (xs := ([a1] : List (A8 Int))) (e := (eA8 (D.int .u16))) rfl)) ?_
        refine step (v := .loc 1 0 l25.length) rfl ?_
        exact RunOps.nil' (Norm.mk [1] (by decide) (by decide) (by decide) ⟨.loc 0 _ _ (show 0 < 1 by decide), trivial⟩ ⟨⟨show 0 < 1 by decide, _, rfl, .lst _ _ _⟩, trivial⟩)
      exact And.intro rfl rfl
    · replace h := iteF hc24 h
      refine NWp.condF (t := (!z23)) rfl hc24 ?_
      have hh := Option.some.inj h
      subst hh
      refine NWp.norm (s0 := ⟨tab [(5, .loc 0 0 z22.length)], stab [(0, .lst false (some 8) (List.map (eA8 (D.int .u16)) z22))], 1⟩) (Norm.mk [0] (by decide) (by decide) (by decide) ⟨.loc 0 _ _ (show 0 < 1 by decide), trivial⟩ ⟨⟨show 0 < 1 by decide, _, rfl, .lst _ _ _⟩, trivial⟩) ?_
      refine NWp.skip ?_
      exact And.intro rfl rfl
  refine NWp.opsJ ⟨tab [(4, .loc 0 0 l26.length)], stab [(0, .lst false (some 8) (List.map (eA8 (D.int .u16)) l26))], 1⟩ ?_ ?_
  · refine step (v := .loc 0 0 l26.length) rfl ?_
    refine step (v := .loc 0 0 l26.length) rfl ?_
    exact RunOps.nil' (Norm.mk [0] (by decide) (by decide) (by decide) ⟨.loc 0 _ _ (show 0 < 1 by decide), trivial⟩ ⟨⟨show 0 < 1 by decide, _, rfl, .lst _ _ _⟩, trivial⟩)
  have hh := Option.some.inj h
  subst hh
  refine NWp.ret ?_
  show FQ _ _ _ _
  exact FQ.mk1 (.inr rfl) (res_t (v := .loc 0 0 l26.length) rfl rfl) (RV.loc (xs := l26) (e := (eA8 (D.int .u16))) rfl rfl trivial)

theorem c_ref08_Rows {a0 : (List api_Row)} {a1 : (A8 Int)} {r : ((List (A8 Int)) × Bool)} (h : ref08_Rows a0 a1 = some r) : PCall Try.prog 62 [eL (some 2) eapi_Row a0, eA8 (D.int .u16) a1] (.tup [eL (some 8) (eA8 (D.int .u16)) r.1, .bool r.2]) := by
  refine PCall.introN ok62 (show 2 ≤ 45 by decide) ?_
  refine NWp.norm (s0 := ⟨tab [(0, .d (eL (some 2) eapi_Row a0)), (1, .d (eA8 (D.int .u16) a1))], stab [], 0⟩) (Norm.mk [] (by decide) (by decide) (by decide) ⟨.d _, .d _, trivial⟩ trivial) ?_
  refine NWp.opsJ ⟨tab [(0, .d (eL (some 2) eapi_Row a0)), (3, .d (.cptr (some 8) (eA8 (D.int .u16) a1) 0))], stab [], 0⟩ ?_ ?_
  · refine step (v := .d (.cptr (some 8) (eA8 (D.int .u16) a1) 0)) rfl ?_
    refine step (v := .d (eL (some 8) (eA8 (D.int .u16)) ([] : List (A8 Int)))) rfl ?_
    refine step (v := .d (.bool false)) rfl ?_
    exact RunOps.nil' (Norm.mk [] (by decide) (by decide) (by decide) ⟨.d _, .d _, trivial⟩ trivial)
  refine NWp.seq ?_
  refine NWp.opsJ ⟨tab [(0, .d (eL (some 2) eapi_Row a0)), (3, .d (.cptr (some 8) (eA8 (D.int .u16) a1) 0)), (6, .d (.int .i64 0))], stab [], 0⟩ ?_ ?_
  · refine step (v := .d (.int .i64 0)) rfl ?_
    exact RunOps.nil' (Norm.mk [] (by decide) (by decide) (by decide) ⟨.d _, .d _, .d _, trivial⟩ trivial)
  obtain ⟨q22, hl, h⟩ := bindE h
  refine NWp.block ?_
  refine loop_forR (cntU (a0.length : Int)) (fun (i1 : Int) (qq : Unit) => ⟨tab [(0, .d (eL (some 2) eapi_Row a0)), (3, .d (.cptr (some 8) (eA8 (D.int .u16) a1) 0)), (6, .d (.int .i64 i1))], stab [], 0⟩) 0 (fun (qq : Unit) => ⟨tab [], stab [], 0⟩) Low low_step (r := r) hl (by unfold Low; omega) ?_ ?_ ?_ ?_
  · rintro i1 ⟨⟩ xr6 hinv4 hgo3 h
    show NWp _ _ _ _ _ ⟨tab [(0, .d (eL (some 2) eapi_Row a0)), (3, .d (.cptr (some 8) (eA8 (D.int .u16) a1) 0)), (6, .d (.int .i64 i1))], stab [], 0⟩
    have hc5 : decide (i1 < (a0.length : Int)) = true := decide_eq_true hgo3
    refine NWp.seq ?_
    refine NWp.opsJ ⟨tab [(0, .d (eL (some 2) eapi_Row a0)), (3, .d (.cptr (some 8) (eA8 (D.int .u16) a1) 0)), (6, .d (.int .i64 i1)), (11, .d (.int .i64 (a0.length : Int))), (12, .d (.bool (decide (i1 < (a0.length : Int)))))], stab [], 0⟩ ?_ ?_
    · refine step (v := .d (.int .i64 i1)) rfl ?_
      refine step (v := .d (eL (some 2) eapi_Row a0)) rfl ?_
      refine step (v := .d (.int .i64 (a0.length : Int))) (st_len (xs := a0) (e := eapi_Row) rfl) ?_
      refine step (v := .d (.bool (decide (i1 < (a0.length : Int))))) rfl ?_
      exact RunOps.nil' (Norm.mk [] (by decide) (by decide) (by decide) ⟨.d _, .d _, .d _, .d _, .d _, trivial⟩ trivial)
    refine NWp.rng 11 rfl fun hB2 => ?_
    refine NWp.condT (t := decide (i1 < (a0.length : Int))) rfl hc5 ?_
    refine NWp.skip ?_
    refine NWp.seq ?_
    refine NWp.block ?_
    obtain ⟨x7, hx7, h⟩ := bindE h
    obtain ⟨r8, hr8, h⟩ := bindE h
    refine NWp.opsJ ⟨tab [(0, .d (eL (some 2) eapi_Row a0)), (3, .d (.cptr (some 8) (eA8 (D.int .u16) a1) 0)), (6, .d (.int .i64 i1)), (21, .d (.bool r8))], stab [], 0⟩ ?_ ?_
    · refine step (v := .d (eA8 (D.int .u16) a1)) rfl ?_
      refine step (v := .d (eL (some 2) eapi_Row a0)) rfl ?_
      refine step (v := .d (.int .i64 i1)) rfl ?_
      refine step (v := .d (.cptr (some 2) (eapi_Row x7) 0)) (st_iaddr (xs := a0) (e := eapi_Row) hx7 rfl rfl) ?_
      refine step (v := .d (.cptr (some 2) (eapi_Row x7) 0)) rfl ?_
      refine step (v := .d (eL (some 2) eapi_Pair x7.Match)) rfl ?_
      refine stepC (r := .bool r8) (ArgsOk.dt (ArgsOk.dt ArgsOk.nil')) (c_ref01_Has hr8) ?_
      exact RunOps.nil' (Norm.mk [] (by decide) (by decide) (by decide) ⟨.d _, .d _, .d _, .d _, trivial⟩ trivial)
    by_cases hc9 : r8 = true
    · replace h := iteT hc9 h
      refine NWp.condT (t := r8) rfl hc9 ?_
      refine NWp.opsJ ⟨tab [(0, .d (eL (some 2) eapi_Row a0)), (3, .d (.cptr (some 8) (eA8 (D.int .u16) a1) 0)), (6, .d (.int .i64 i1)), (7, .d (eL (some 8) (eA8 (D.int .u16)) ([] : List (A8 Int))))], stab [], 0⟩ ?_ ?_
      · refine step (v := .d (eL (some 8) (eA8 (D.int .u16)) ([] : List (A8 Int)))) rfl ?_
        exact RunOps.nil' (Norm.mk [] (by decide) (by decide) (by decide) ⟨.d _, .d _, .d _, .d _, trivial⟩ trivial)
      refine NWp.seq ?_
      refine NWp.opsJ ⟨tab [(0, .d (eL (some 2) eapi_Row a0)), (3, .d (.cptr (some 8) (eA8 (D.int .u16) a1) 0)), (6, .d (.int .i64 i1)), (7, .d (eL (some 8) (eA8 (D.int .u16)) ([] : List (A8 Int)))), (8, .d (.int .i64 0))], stab [], 0⟩ ?_ ?_
      · refine step (v := .d (.int .i64 0)) rfl ?_
        exact RunOps.nil' (Norm.mk [] (by decide) (by decide) (by decide) ⟨.d _, .d _, .d _, .d _, .d _, trivial⟩ trivial)
      obtain ⟨z20, hl, h⟩ := bindE h
      refine NWp.block ?_
      refine loop_forO (cntU (x7.Acts.length : Int)) (fun (i11 : Int) (qq : (List (A8 Int))) => ⟨tab [(0, .d (eL (some 2) eapi_Row a0)), (3, .d (.cptr (some 8) (eA8 (D.int .u16) a1) 0)), (6, .d (.int .i64 i1)), (7, .d (eL (some 8) (eA8 (D.int .u16)) qq)), (8, .d (.int .i64 i11))], stab [], 0⟩) 2 (fun (qq : (List (A8 Int))) => ⟨tab [(7, .d (eL (some 8) (eA8 (D.int .u16)) qq))], stab [], 0⟩) Low low_step hl (by unfold Low; omega) ?_ ?_ ?_
      · rintro i11 y10 xr16 hinv14 hgo13 h
        show NWp _ _ _ _ _ ⟨tab [(0, .d (eL (some 2) eapi_Row a0)), (3, .d (.cptr (some 8) (eA8 (D.int .u16) a1) 0)), (6, .d (.int .i64 i1)), (7, .d (eL (some 8) (eA8 (D.int .u16)) y10)), (8, .d (.int .i64 i11))], stab [], 0⟩
        have hc15 : decide (i11 < (x7.Acts.length : Int)) = true := decide_eq_true hgo13
        refine NWp.seq ?_
        refine NWp.opsJ ⟨tab [(0, .d (eL (some 2) eapi_Row a0)), (3, .d (.cptr (some 8) (eA8 (D.int .u16) a1) 0)), (6, .d (.int .i64 i1)), (7, .d (eL (some 8) (eA8 (D.int .u16)) y10)), (8, .d (.int .i64 i11)), (28, .d (.int .i64 (x7.Acts.length : Int))), (29, .d (.bool (decide (i11 < (x7.Acts.length : Int)))))], stab [], 0⟩ ?_ ?_
        · refine step (v := .d (.int .i64 i11)) rfl ?_
          refine step (v := .d (eL (some 2) eapi_Row a0)) rfl ?_
          refine step (v := .d (.int .i64 i1)) rfl ?_
          refine step (v := .d (.cptr (some 2) (eapi_Row x7) 0)) (st_iaddr (xs := a0) (e := eapi_Row) hx7 rfl rfl) ?_
          refine step (v := .d (.cptr (some 2) (eapi_Row x7) 1)) rfl ?_
          refine step (v := .d (eL none (eL (some 2) eapi_Pair) x7.Acts)) rfl ?_
          refine step (v := .d (.int .i64 (x7.Acts.length : Int))) (st_len (xs := x7.Acts) (e := (eL (some 2) eapi_Pair)) rfl) ?_
          refine step (v := .d (.bool (decide (i11 < (x7.Acts.length : Int))))) rfl ?_
          exact RunOps.nil' (Norm.mk [] (by decide) (by decide) (by decide) ⟨.d _, .d _, .d _, .d _, .d _, .d _, .d _, trivial⟩ trivial)
        refine NWp.rng 28 rfl fun hB12 => ?_
        refine NWp.condT (t := decide (i11 < (x7.Acts.length : Int))) rfl hc15 ?_
        refine NWp.skip ?_
        refine NWp.seq ?_
        refine NWp.block ?_
        obtain ⟨x17, hx17, h⟩ := bindE h
        obtain ⟨r18, hr18, h⟩ := bindE h
        obtain ⟨r19, hr19, h⟩ := bindE h
        refine NWp.opsE ⟨tab [(0, .d (eL (some 2) eapi_Row a0)), (3, .d (.cptr (some 8) (eA8 (D.int .u16) a1) 0)), (6, .d (.int .i64 i1)), (7, .d (eL (some 8) (eA8 (D.int .u16)) r19)), (8, .d (.int .i64 i11))], stab [], 0⟩ ?_ ?_
        · refine step (v := .d (eL (some 8) (eA8 (D.int .u16)) y10)) rfl ?_
          refine step (v := .d (eA8 (D.int .u16) a1)) rfl ?_
          refine step (v := .d (eL (some 2) eapi_Row a0)) rfl ?_
          refine step (v := .d (.int .i64 i1)) rfl ?_
          refine step (v := .d (.cptr (some 2) (eapi_Row x7) 0)) (st_iaddr (xs := a0) (e := eapi_Row) hx7 rfl rfl) ?_
          refine step (v := .d (.cptr (some 2) (eapi_Row x7) 1)) rfl ?_
          refine step (v := .d (eL none (eL (some 2) eapi_Pair) x7.Acts)) rfl ?_
          refine step (v := .d (.int .i64 i11)) rfl ?_
          refine step (v := .d (.cptr none (eL (some 2) eapi_Pair x17) 0)) (st_iaddr (xs := x7.Acts) (e := (eL (some 2) eapi_Pair)) hx17 rfl rfl) ?_
          refine step (v := .d (eL (some 2) eapi_Pair x17)) rfl ?_
          refine stepC (r := eA8 (D.int .u16) r18) (ArgsOk.dt (ArgsOk.dt ArgsOk.nil')) (c_ref01_Do hr18) ?_
          refine stepC (r := eL (some 8) (eA8 (D.int .u16)) r19) (ArgsOk.dt (ArgsOk.dt ArgsOk.nil')) (c_ref01_Add hr19) ?_
          refine step (v := .d (eL (some 8) (eA8 (D.int .u16)) r19)) rfl ?_
          exact RunOps.nil' (Norm.mk [] (by decide) (by decide) (by decide) ⟨.d _, .d _, .d _, .d _, .d _, trivial⟩ trivial)
        have hh := Option.some.inj h
        subst hh
        refine NWp.opsE ⟨tab [(0, .d (eL (some 2) eapi_Row a0)), (3, .d (.cptr (some 8) (eA8 (D.int .u16) a1) 0)), (6, .d (.int .i64 i1)), (7, .d (eL (some 8) (eA8 (D.int .u16)) r19)), (8, .d (.int .i64 (i11 + 1)))], stab [], 0⟩ ?_ ?_
        · refine step (v := .d (.int .i64 i11)) rfl ?_
          refine step (v := .d (.int .i64 (i11 + 1))) (st_inc (inc_ok hinv14 hgo13 hB12) rfl rfl) ?_
          refine step (v := .d (.int .i64 (i11 + 1))) rfl ?_
          exact RunOps.nil' (Norm.mk [] (by decide) (by decide) (by decide) ⟨.d _, .d _, .d _, .d _, .d _, trivial⟩ trivial)
        exact And.intro rfl rfl
      · rintro i11 y10 hinv14 hgo13
        show NWp _ _ _ _ _ ⟨tab [(0, .d (eL (some 2) eapi_Row a0)), (3, .d (.cptr (some 8) (eA8 (D.int .u16) a1) 0)), (6, .d (.int .i64 i1)), (7, .d (eL (some 8) (eA8 (D.int .u16)) y10)), (8, .d (.int .i64 i11))], stab [], 0⟩
        have hc15 : ¬ (decide (i11 < (x7.Acts.length : Int)) = true) := fun hq => hgo13 (of_decide_eq_true hq)
        refine NWp.seq ?_
        refine NWp.opsJ ⟨tab [(0, .d (eL (some 2) eapi_Row a0)), (3, .d (.cptr (some 8) (eA8 (D.int .u16) a1) 0)), (6, .d (.int .i64 i1)), (7, .d (eL (some 8) (eA8 (D.int .u16)) y10)), (8, .d (.int .i64 i11)), (29, .d (.bool (decide (i11 < (x7.Acts.length : Int)))))], stab [], 0⟩ ?_ ?_
        · refine step (v := .d (.int .i64 i11)) rfl ?_
          refine step (v := .d (eL (some 2) eapi_Row a0)) rfl ?_
          refine step (v := .d (.int .i64 i1)) rfl ?_
          refine step (v := .d (.cptr (some 2) (eapi_Row x7) 0)) (st_iaddr (xs := a0) (e := eapi_Row) hx7 rfl rfl) ?_
          refine step (v := .d (.cptr (some 2) (eapi_Row x7) 1)) rfl ?_
          refine step (v := .d (eL none (eL (some 2) eapi_Pair) x7.Acts)) rfl ?_
          refine step (v := .d (.int .i64 (x7.Acts.length : Int))) (st_len (xs := x7.Acts) (e := (eL (some 2) eapi_Pair)) rfl) ?_
          refine step (v := .d (.bool (decide (i11 < (x7.Acts.length : Int))))) rfl ?_
          exact RunOps.nil' (Norm.mk [] (by decide) (by decide) (by decide) ⟨.d _, .d _, .d _, .d _, .d _, .d _, trivial⟩ trivial)
        refine NWp.condF (t := decide (i11 < (x7.Acts.length : Int))) rfl hc15 ?_
        refine NWp.norm (s0 := ⟨tab [(7, .d (eL (some 8) (eA8 (D.int .u16)) y10))], stab [], 0⟩) (Norm.mk [] (by decide) (by decide) (by decide) ⟨.d _, trivial⟩ trivial) ?_
        refine NWp.exit ?_
        exact And.intro rfl rfl
      refine NWp.opsJ ⟨tab [(4, .d (eL (some 8) (eA8 (D.int .u16)) z20)), (5, .d (.bool true))], stab [], 0⟩ ?_ ?_
      · refine step (v := .d (eL (some 8) (eA8 (D.int .u16)) z20)) rfl ?_
        refine step (v := .d (eL (some 8) (eA8 (D.int .u16)) z20)) rfl ?_
        refine step (v := .d (.bool true)) rfl ?_
        exact RunOps.nil' (Norm.mk [] (by decide) (by decide) (by decide) ⟨.d _, .d _, trivial⟩ trivial)
      obtain ⟨r21, kr21, hr⟩ := mapE (o := some (z20, true)) (g := Br.ret) h
      subst hr
      have h := kr21
      have hh := Option.some.inj h
      subst hh
      refine NWp.ret ?_
      refine And.intro (fun hn => nomatch hn) ?_
      intro hq
      have hq := hq.symm
      subst hq
      show FQ _ _ _ _
      exact FQ.mkT (.inr rfl) (res_t (v := .d (eL (some 8) (eA8 (D.int .u16)) z20)) rfl (res_t (v := .d (.bool true)) rfl rfl)) (RV.d (RV.d trivial))
    · replace h := iteF hc9 h
      refine NWp.condF (t := r8) rfl hc9 ?_
      refine NWp.skip ?_
      have hh := Option.some.inj h
      subst hh
      refine NWp.opsE ⟨tab [(0, .d (eL (some 2) eapi_Row a0)), (3, .d (.cptr (some 8) (eA8 (D.int .u16) a1) 0)), (6, .d (.int .i64 (i1 + 1)))], stab [], 0⟩ ?_ ?_
      · refine step (v := .d (.int .i64 i1)) rfl ?_
        refine step (v := .d (.int .i64 (i1 + 1))) (st_inc (inc_ok hinv4 hgo3 hB2) rfl rfl) ?_
        refine step (v := .d (.int .i64 (i1 + 1))) rfl ?_
        exact RunOps.nil' (Norm.mk [] (by decide) (by decide) (by decide) ⟨.d _, .d _, .d _, trivial⟩ trivial)
      exact And.intro rfl rfl
  · rintro i1 ⟨⟩ hinv4 hgo3
    show NWp _ _ _ _ _ ⟨tab [(0, .d (eL (some 2) eapi_Row a0)), (3, .d (.cptr (some 8) (eA8 (D.int .u16) a1) 0)), (6, .d (.int .i64 i1))], stab [], 0⟩
    have hc5 : ¬ (decide (i1 < (a0.length : Int)) = true) := fun hq => hgo3 (of_decide_eq_true hq)
    refine NWp.seq ?_
    refine NWp.opsJ ⟨tab [(0, .d (eL (some 2) eapi_Row a0)), (3, .d (.cptr (some 8) (eA8 (D.int .u16) a1) 0)), (6, .d (.int .i64 i1)), (12, .d (.bool (decide (i1 < (a0.length : Int)))))], stab [], 0⟩ ?_ ?_
    · refine step (v := .d (.int .i64 i1)) rfl ?_
      refine step (v := .d (eL (some 2) eapi_Row a0)) rfl ?_
      refine step (v := .d (.int .i64 (a0.length : Int))) (st_len (xs := a0) (e := eapi_Row) rfl) ?_
      refine step (v := .d (.bool (decide (i1 < (a0.length : Int))))) rfl ?_
      exact RunOps.nil' (Norm.mk [] (by decide) (by decide) (by decide) ⟨.d _, .d _, .d _, .d _, trivial⟩ trivial)
    refine NWp.condF (t := decide (i1 < (a0.length : Int))) rfl hc5 ?_
    refine NWp.norm (s0 := ⟨tab [], stab [], 0⟩) (Norm.mk [] (by decide) (by decide) (by decide) trivial trivial) ?_
    refine NWp.exit ?_
    exact And.intro rfl rfl
  · intro r' hq
    subst hq
    exact Option.some.inj h
  rintro ⟨⟩ rfl
  refine NWp.opsJ ⟨tab [(4, .d (eL (some 8) (eA8 (D.int .u16)) ([] : List (A8 Int)))), (5, .d (.bool false))], stab [], 0⟩ ?_ ?_
  · refine step (v := .d (eL (some 8) (eA8 (D.int .u16)) ([] : List (A8 Int)))) rfl ?_
    refine step (v := .d (.bool false)) rfl ?_
    exact RunOps.nil' (Norm.mk [] (by decide) (by decide) (by decide) ⟨.d _, .d _, trivial⟩ trivial)
  have hh := Option.some.inj h
  subst hh
  refine NWp.ret ?_
  show FQ _ _ _ _
  exact FQ.mkT (.inr rfl) (res_t (v := .d (eL (some 8) (eA8 (D.int .u16)) ([] : List (A8 Int)))) rfl (res_t (v := .d (.bool false)) rfl rfl)) (RV.d (RV.d trivial))

theorem c_ref09_Lookup {a0 : (List api_Row)} {a1 : (A8 Int)} {r : ((List (A8 Int)) × Int)} (h : ref09_Lookup a0 a1 = some r) : PCall Try.prog 40 [eL (some 2) eapi_Row a0, eA8 (D.int .u16) a1] (.tup [eL (some 8) (eA8 (D.int .u16)) r.1, .int .i64 r.2]) := by
  refine PCall.introN ok40 (show 2 ≤ 34 by decide) ?_
  refine NWp.norm (s0 := ⟨tab [(0, .d (eL (some 2) eapi_Row a0)), (1, .d (eA8 (D.int .u16) a1))], stab [], 0⟩) (Norm.mk [] (by decide) (by decide) (by decide) ⟨.d _, .d _, trivial⟩ trivial) ?_
  refine NWp.opsJ ⟨tab [(0, .d (eL (some 2) eapi_Row a0)), (3, .d (.cptr (some 8) (eA8 (D.int .u16) a1) 0))], stab [], 0⟩ ?_ ?_
  · refine step (v := .d (.cptr (some 8) (eA8 (D.int .u16) a1) 0)) rfl ?_
    refine step (v := .d (eL (some 8) (eA8 (D.int .u16)) ([] : List (A8 Int)))) rfl ?_
    refine step (v := .d (.int .i64 0)) rfl ?_
    exact RunOps.nil' (Norm.mk [] (by decide) (by decide) (by decide) ⟨.d _, .d _, trivial⟩ trivial)
  refine NWp.seq ?_
  refine NWp.opsJ ⟨tab [(0, .d (eL (some 2) eapi_Row a0)), (3, .d (.cptr (some 8) (eA8 (D.int .u16) a1) 0)), (6, .d (.int .i64 0))], stab [], 0⟩ ?_ ?_
  · refine step (v := .d (.int .i64 0)) rfl ?_
    exact RunOps.nil' (Norm.mk [] (by decide) (by decide) (by decide) ⟨.d _, .d _, .d _, trivial⟩ trivial)
  obtain ⟨q12, hl, h⟩ := bindE h
  refine NWp.block ?_
  refine loop_forR (cntU (a0.length : Int)) (fun (i1 : Int) (qq : Unit) => ⟨tab [(0, .d (eL (some 2) eapi_Row a0)), (3, .d (.cptr (some 8) (eA8 (D.int .u16) a1) 0)), (6, .d (.int .i64 i1))], stab [], 0⟩) 0 (fun (qq : Unit) => ⟨tab [], stab [], 0⟩) Low low_step (r := r) hl (by unfold Low; omega) ?_ ?_ ?_ ?_
  · rintro i1 ⟨⟩ xr6 hinv4 hgo3 h
    show NWp _ _ _ _ _ ⟨tab [(0, .d (eL (some 2) eapi_Row a0)), (3, .d (.cptr (some 8) (eA8 (D.int .u16) a1) 0)), (6, .d (.int .i64 i1))], stab [], 0⟩
    have hc5 : decide (i1 < (a0.length : Int)) = true := decide_eq_true hgo3
    refine NWp.seq ?_
    refine NWp.opsJ ⟨tab [(0, .d (eL (some 2) eapi_Row a0)), (3, .d (.cptr (some 8) (eA8 (D.int .u16) a1) 0)), (6, .d (.int .i64 i1)), (11, .d (.int .i64 (a0.length : Int))), (12, .d (.bool (decide (i1 < (a0.length : Int)))))], stab [], 0⟩ ?_ ?_
    · refine step (v := .d (.int .i64 i1)) rfl ?_
      refine step (v := .d (eL (some 2) eapi_Row a0)) rfl ?_
      refine step (v := .d (.int .i64 (a0.length : Int))) (st_len (xs := a0) (e := eapi_Row) rfl) ?_
      refine step (v := .d (.bool (decide (i1 < (a0.length : Int))))) rfl ?_
      exact RunOps.nil' (Norm.mk [] (by decide) (by decide) (by decide) ⟨.d _, .d _, .d _, .d _, .d _, trivial⟩ trivial)
    refine NWp.rng 11 rfl fun hB2 => ?_
    refine NWp.condT (t := decide (i1 < (a0.length : Int))) rfl hc5 ?_
    refine NWp.skip ?_
    refine NWp.seq ?_
    refine NWp.block ?_
    obtain ⟨x7, hx7, h⟩ := bindE h
    obtain ⟨r8, hr8, h⟩ := bindE h
    refine NWp.opsJ ⟨tab [(0, .d (eL (some 2) eapi_Row a0)), (3, .d (.cptr (some 8) (eA8 (D.int .u16) a1) 0)), (6, .d (.int .i64 i1)), (21, .d (.bool r8))], stab [], 0⟩ ?_ ?_
    · refine step (v := .d (eA8 (D.int .u16) a1)) rfl ?_
      refine step (v := .d (eL (some 2) eapi_Row a0)) rfl ?_
      refine step (v := .d (.int .i64 i1)) rfl ?_
      refine step (v := .d (.cptr (some 2) (eapi_Row x7) 0)) (st_iaddr (xs := a0) (e := eapi_Row) hx7 rfl rfl) ?_
      refine step (v := .d (.cptr (some 2) (eapi_Row x7) 0)) rfl ?_
      refine step (v := .d (eL (some 2) eapi_Pair x7.Match)) rfl ?_
      refine stepC (r := .bool r8) (ArgsOk.dt (ArgsOk.dt ArgsOk.nil')) (c_ref01_Has hr8) ?_
      exact RunOps.nil' (Norm.mk [] (by decide) (by decide) (by decide) ⟨.d _, .d _, .d _, .d _, trivial⟩ trivial)
    by_cases hc9 : r8 = true
    · replace h := iteT hc9 h
      refine NWp.condT (t := r8) rfl hc9 ?_
      obtain ⟨l10, hl10, h⟩ := bindE h
      obtain ⟨r11, hr11, h⟩ := bindE h
      refine NWp.opsJ ⟨tab [(6, .d (.int .i64 i1)), (7, .d (eL (some 8) (eA8 (D.int .u16)) r11.1))], stab [], 0⟩ ?_ ?_
      · refine step (v := .d (eL (some 2) eapi_Row a0)) rfl ?_
        refine step (v := .d (.int .i64 i1)) rfl ?_
        refine step (v := .d (.int .i64 i1)) rfl ?_
        refine step (v := .d (.int .i64 (i1 + 1))) (st_inc (inc_ok hinv4 hgo3 hB2) rfl rfl) ?_
        refine step (v := .d (eL (some 2) eapi_Row l10)) (st_slc (xs := a0) (e := eapi_Row) hl10 rfl ⟨_, rfl⟩ ⟨_, rfl⟩) ?_
        refine step (v := .d (eA8 (D.int .u16) a1)) rfl ?_
        refine stepC (r := .tup [eL (some 8) (eA8 (D.int .u16)) r11.1, .bool r11.2]) (ArgsOk.dt (ArgsOk.dt ArgsOk.nil')) (c_ref08_Rows hr11) ?_
        refine step (v := .d (.tup [eL (some 8) (eA8 (D.int .u16)) r11.1, .bool r11.2])) rfl ?_
        refine step (v := .d (eL (some 8) (eA8 (D.int .u16)) r11.1)) rfl ?_
        refine step (v := .d (.bool r11.2)) rfl ?_
        refine step (v := .d (eL (some 8) (eA8 (D.int .u16)) r11.1)) rfl ?_
        refine step (v := .d (.bool r11.2)) rfl ?_
        exact RunOps.nil' (Norm.mk [] (by decide) (by decide) (by decide) ⟨.d _, .d _, trivial⟩ trivial)
      refine NWp.opsJ ⟨tab [(4, .d (eL (some 8) (eA8 (D.int .u16)) r11.1)), (5, .d (.int .i64 i1))], stab [], 0⟩ ?_ ?_
      · refine step (v := .d (eL (some 8) (eA8 (D.int .u16)) r11.1)) rfl ?_
        refine step (v := .d (.int .i64 i1)) rfl ?_
        refine step (v := .d (eL (some 8) (eA8 (D.int .u16)) r11.1)) rfl ?_
        refine step (v := .d (.int .i64 i1)) rfl ?_
        exact RunOps.nil' (Norm.mk [] (by decide) (by decide) (by decide) ⟨.d _, .d _, trivial⟩ trivial)
      obtain ⟨r12, kr12, hr⟩ := mapE (o := some (r11.1, i1)) (g := Br.ret) h
      subst hr
      have h := kr12
      have hh := Option.some.inj h
      subst hh
      refine NWp.ret ?_
      refine And.intro (fun hn => nomatch hn) ?_
      intro hq
      have hq := hq.symm
      subst hq
      show FQ _ _ _ _
      exact FQ.mkT (.inr rfl) (res_t (v := .d (eL (some 8) (eA8 (D.int .u16)) r11.1)) rfl (res_t (v := .d (.int .i64 i1)) rfl rfl)) (RV.d (RV.d trivial))
    · replace h := iteF hc9 h
      refine NWp.condF (t := r8) rfl hc9 ?_
      refine NWp.skip ?_
      have hh := Option.some.inj h
      subst hh
      refine NWp.opsE ⟨tab [(0, .d (eL (some 2) eapi_Row a0)), (3, .d (.cptr (some 8) (eA8 (D.int .u16) a1) 0)), (6, .d (.int .i64 (i1 + 1)))], stab [], 0⟩ ?_ ?_
      · refine step (v := .d (.int .i64 i1)) rfl ?_
        refine step (v := .d (.int .i64 (i1 + 1))) (st_inc (inc_ok hinv4 hgo3 hB2) rfl rfl) ?_
        refine step (v := .d (.int .i64 (i1 + 1))) rfl ?_
        exact RunOps.nil' (Norm.mk [] (by decide) (by decide) (by decide) ⟨.d _, .d _, .d _, trivial⟩ trivial)
      exact And.intro rfl rfl
  · rintro i1 ⟨⟩ hinv4 hgo3
    show NWp _ _ _ _ _ ⟨tab [(0, .d (eL (some 2) eapi_Row a0)), (3, .d (.cptr (some 8) (eA8 (D.int .u16) a1) 0)), (6, .d (.int .i64 i1))], stab [], 0⟩
    have hc5 : ¬ (decide (i1 < (a0.length : Int)) = true) := fun hq => hgo3 (of_decide_eq_true hq)
    refine NWp.seq ?_
    refine NWp.opsJ ⟨tab [(0, .d (eL (some 2) eapi_Row a0)), (3, .d (.cptr (some 8) (eA8 (D.int .u16) a1) 0)), (6, .d (.int .i64 i1)), (12, .d (.bool (decide (i1 < (a0.length : Int)))))], stab [], 0⟩ ?_ ?_
    · refine step (v := .d (.int .i64 i1)) rfl ?_
      refine step (v := .d (eL (some 2) eapi_Row a0)) rfl ?_
      refine step (v := .d (.int .i64 (a0.length : Int))) (st_len (xs := a0) (e := eapi_Row) rfl) ?_
      refine step (v := .d (.bool (decide (i1 < (a0.length : Int))))) rfl ?_
      exact RunOps.nil' (Norm.mk [] (by decide) (by decide) (by decide) ⟨.d _, .d _, .d _, .d _, trivial⟩ trivial)
    refine NWp.condF (t := decide (i1 < (a0.length : Int))) rfl hc5 ?_
    refine NWp.norm (s0 := ⟨tab [], stab [], 0⟩) (Norm.mk [] (by decide) (by decide) (by decide) trivial trivial) ?_
    refine NWp.exit ?_
    exact And.intro rfl rfl
  · intro r' hq
    subst hq
    exact Option.some.inj h
  rintro ⟨⟩ rfl
  refine NWp.opsJ ⟨tab [(4, .d (eL (some 8) (eA8 (D.int .u16)) ([] : List (A8 Int)))), (5, .d (.int .i64 (-1)))], stab [], 0⟩ ?_ ?_
  · refine step (v := .d (eL (some 8) (eA8 (D.int .u16)) ([] : List (A8 Int)))) rfl ?_
    refine step (v := .d (.int .i64 (-1))) rfl ?_
    exact RunOps.nil' (Norm.mk [] (by decide) (by decide) (by decide) ⟨.d _, .d _, trivial⟩ trivial)
  have hh := Option.some.inj h
  subst hh
  refine NWp.ret ?_
  show FQ _ _ _ _
  exact FQ.mkT (.inr rfl) (res_t (v := .d (eL (some 8) (eA8 (D.int .u16)) ([] : List (A8 Int)))) rfl (res_t (v := .d (.int .i64 (-1))) rfl rfl)) (RV.d (RV.d trivial))

theorem c_ref01_Same {a0 : (List (A8 Int))} {a1 : (List (A8 Int))} {r : Bool} (h : ref01_Same a0 a1 = some r) : PCall Try.prog 41 [eL (some 8) (eA8 (D.int .u16)) a0, eL (some 8) (eA8 (D.int .u16)) a1] (.bool r) := by
  refine PCall.introN ok41 (show 2 ≤ 26 by decide) ?_
  refine NWp.norm (s0 := ⟨tab [(0, .d (eL (some 8) (eA8 (D.int .u16)) a0)), (1, .d (eL (some 8) (eA8 (D.int .u16)) a1))], stab [], 0⟩) (Norm.mk [] (by decide) (by decide) (by decide) ⟨.d _, .d _, trivial⟩ trivial) ?_
  refine NWp.opsJ ⟨tab [(0, .d (eL (some 8) (eA8 (D.int .u16)) a0)), (1, .d (eL (some 8) (eA8 (D.int .u16)) a1))], stab [], 0⟩ ?_ ?_
  · refine step (v := .d (.bool false)) rfl ?_
    exact RunOps.nil' (Norm.mk [] (by decide) (by decide) (by decide) ⟨.d _, .d _, trivial⟩ trivial)
  refine NWp.seq ?_
  refine NWp.opsJ ⟨tab [(0, .d (eL (some 8) (eA8 (D.int .u16)) a0)), (1, .d (eL (some 8) (eA8 (D.int .u16)) a1)), (10, .d (.bool ((a0.length : Int) != (a1.length : Int))))], stab [], 0⟩ ?_ ?_
  · refine step (v := .d (eL (some 8) (eA8 (D.int .u16)) a0)) rfl ?_
    refine step (v := .d (.int .i64 (a0.length : Int))) (st_len (xs := a0) (e := (eA8 (D.int .u16))) rfl) ?_
    refine step (v := .d (eL (some 8) (eA8 (D.int .u16)) a1)) rfl ?_
    refine step (v := .d (.int .i64 (a1.length : Int))) (st_len (xs := a1) (e := (eA8 (D.int .u16))) rfl) ?_
    refine step (v := .d (.bool ((a0.length : Int) != (a1.length : Int)))) rfl ?_
    exact RunOps.nil' (Norm.mk [] (by decide) (by decide) (by decide) ⟨.d _, .d _, .d _, trivial⟩ trivial)
  by_cases hc1 : ((a0.length : Int) != (a1.length : Int)) = true
  · replace h := iteT hc1 h
    refine NWp.condT (t := ((a0.length : Int) != (a1.length : Int))) rfl hc1 ?_
    refine NWp.opsJ ⟨tab [(4, .d (.bool false))], stab [], 0⟩ ?_ ?_
    · refine step (v := .d (.bool false)) rfl ?_
      exact RunOps.nil' (Norm.mk [] (by decide) (by decide) (by decide) ⟨.d _, trivial⟩ trivial)
    have hh := Option.some.inj h
    subst hh
    refine NWp.ret ?_
    show FQ _ _ _ _
    exact FQ.mk1 (.inr rfl) (res_t (v := .d (.bool false)) rfl rfl) (RV.d trivial)
  · replace h := iteF hc1 h
    refine NWp.condF (t := ((a0.length : Int) != (a1.length : Int))) rfl hc1 ?_
    refine NWp.skip ?_
    refine NWp.seq ?_
    refine NWp.opsJ ⟨tab [(0, .d (eL (some 8) (eA8 (D.int .u16)) a0)), (1, .d (eL (some 8) (eA8 (D.int .u16)) a1)), (5, .d (.int .i64 0))], stab [], 0⟩ ?_ ?_
    · refine step (v := .d (.int .i64 0)) rfl ?_
      exact RunOps.nil' (Norm.mk [] (by decide) (by decide) (by decide) ⟨.d _, .d _, .d _, trivial⟩ trivial)
    obtain ⟨q11, hl, h⟩ := bindE h
    refine NWp.block ?_
    refine loop_forR (cntU (a0.length : Int)) (fun (i2 : Int) (qq : Unit) => ⟨tab [(0, .d (eL (some 8) (eA8 (D.int .u16)) a0)), (1, .d (eL (some 8) (eA8 (D.int .u16)) a1)), (5, .d (.int .i64 i2))], stab [], 0⟩) 0 (fun (qq : Unit) => ⟨tab [], stab [], 0⟩) Low low_step (r := r) hl (by unfold Low; omega) ?_ ?_ ?_ ?_
    · rintro i2 ⟨⟩ xr7 hinv5 hgo4 h
      show NWp _ _ _ _ _ ⟨tab [(0, .d (eL (some 8) (eA8 (D.int .u16)) a0)), (1, .d (eL (some 8) (eA8 (D.int .u16)) a1)), (5, .d (.int .i64 i2))], stab [], 0⟩
      have hc6 : decide (i2 < (a0.length : Int)) = true := decide_eq_true hgo4
      refine NWp.seq ?_
      refine NWp.opsJ ⟨tab [(0, .d (eL (some 8) (eA8 (D.int .u16)) a0)), (1, .d (eL (some 8) (eA8 (D.int .u16)) a1)), (5, .d (.int .i64 i2)), (13, .d (.int .i64 (a0.length : Int))), (14, .d (.bool (decide (i2 < (a0.length : Int)))))], stab [], 0⟩ ?_ ?_
      · refine step (v := .d (.int .i64 i2)) rfl ?_
        refine step (v := .d (eL (some 8) (eA8 (D.int .u16)) a0)) rfl ?_
        refine step (v := .d (.int .i64 (a0.length : Int))) (st_len (xs := a0) (e := (eA8 (D.int .u16))) rfl) ?_
        refine step (v := .d (.bool (decide (i2 < (a0.length : Int))))) rfl ?_
        exact RunOps.nil' (Norm.mk [] (by decide) (by decide) (by decide) ⟨.d _, .d _, .d _, .d _, .d _, trivial⟩ trivial)
      refine NWp.rng 13 rfl fun hB3 => ?_
      refine NWp.condT (t := decide (i2 < (a0.length : Int))) rfl hc6 ?_
      refine NWp.skip ?_
      refine NWp.seq ?_
      refine NWp.block ?_
      obtain ⟨x8, hx8, h⟩ := bindE h
      obtain ⟨x9, hx9, h⟩ := bindE h
      refine NWp.opsJ ⟨tab [(0, .d (eL (some 8) (eA8 (D.int .u16)) a0)), (1, .d (eL (some 8) (eA8 (D.int .u16)) a1)), (5, .d (.int .i64 i2)), (25, .d (.bool (!(x8 == x9))))], stab [], 0⟩ ?_ ?_
      · refine step (v := .d (eL (some 8) (eA8 (D.int .u16)) a0)) rfl ?_
        refine step (v := .d (.int .i64 i2)) rfl ?_
        refine step (v := .d (.cptr (some 8) (eA8 (D.int .u16) x8) 0)) (st_iaddr (xs := a0) (e := (eA8 (D.int .u16))) hx8 rfl rfl) ?_
        refine step (v := .d (eA8 (D.int .u16) x8)) rfl ?_
        refine step (v := .d (eL (some 8) (eA8 (D.int .u16)) a1)) rfl ?_
        refine step (v := .d (.int .i64 i2)) rfl ?_
        refine step (v := .d (.cptr (some 8) (eA8 (D.int .u16) x9) 0)) (st_iaddr (xs := a1) (e := (eA8 (D.int .u16))) hx9 rfl rfl) ?_
        refine step (v := .d (eA8 (D.int .u16) x9)) rfl ?_
        refine step (v := .d (.bool (!(x8 == x9)))) (st_eqS (neg := true) rfl rfl (eqS_A8_Int x8 x9)) ?_
        exact RunOps.nil' (Norm.mk [] (by decide) (by decide) (by decide) ⟨.d _, .d _, .d _, .d _, trivial⟩ trivial)
      by_cases hc10 : (!(x8 == x9)) = true
      · replace h := iteT hc10 h
        refine NWp.condT (t := (!(x8 == x9))) rfl hc10 ?_
        refine NWp.opsJ ⟨tab [(4, .d (.bool false))], stab [], 0⟩ ?_ ?_
        · refine step (v := .d (.bool false)) rfl ?_
          exact RunOps.nil' (Norm.mk [] (by decide) (by decide) (by decide) ⟨.d _, trivial⟩ trivial)
        obtain ⟨r11, kr11, hr⟩ := mapE (o := some false) (g := Br.ret) h
        subst hr
        have h := kr11
        have hh := Option.some.inj h
        subst hh
        refine NWp.ret ?_
        refine And.intro (fun hn => nomatch hn) ?_
        intro hq
        have hq := hq.symm
        subst hq
        show FQ _ _ _ _
        exact FQ.mk1 (.inr rfl) (res_t (v := .d (.bool false)) rfl rfl) (RV.d trivial)
      · replace h := iteF hc10 h
        refine NWp.condF (t := (!(x8 == x9))) rfl hc10 ?_
        refine NWp.skip ?_
        have hh := Option.some.inj h
        subst hh
        refine NWp.opsE ⟨tab [(0, .d (eL (some 8) (eA8 (D.int .u16)) a0)), (1, .d (eL (some 8) (eA8 (D.int .u16)) a1)), (5, .d (.int .i64 (i2 + 1)))], stab [], 0⟩ ?_ ?_
        · refine step (v := .d (.int .i64 i2)) rfl ?_
          refine step (v := .d (.int .i64 (i2 + 1))) (st_inc (inc_ok hinv5 hgo4 hB3) rfl rfl) ?_
          refine step (v := .d (.int .i64 (i2 + 1))) rfl ?_
          exact RunOps.nil' (Norm.mk [] (by decide) (by decide) (by decide) ⟨.d _, .d _, .d _, trivial⟩ trivial)
        exact And.intro rfl rfl
    · rintro i2 ⟨⟩ hinv5 hgo4
      show NWp _ _ _ _ _ ⟨tab [(0, .d (eL (some 8) (eA8 (D.int .u16)) a0)), (1, .d (eL (some 8) (eA8 (D.int .u16)) a1)), (5, .d (.int .i64 i2))], stab [], 0⟩
      have hc6 : ¬ (decide (i2 < (a0.length : Int)) = true) := fun hq => hgo4 (of_decide_eq_true hq)
      refine NWp.seq ?_
      refine NWp.opsJ ⟨tab [(0, .d (eL (some 8) (eA8 (D.int .u16)) a0)), (1, .d (eL (some 8) (eA8 (D.int .u16)) a1)), (5, .d (.int .i64 i2)), (14, .d (.bool (decide (i2 < (a0.length : Int)))))], stab [], 0⟩ ?_ ?_
      · refine step (v := .d (.int .i64 i2)) rfl ?_
        refine step (v := .d (eL (some 8) (eA8 (D.int .u16)) a0)) rfl ?_
        refine step (v := .d (.int .i64 (a0.length : Int))) (st_len (xs := a0) (e := (eA8 (D.int .u16))) rfl) ?_
        refine step (v := .d (.bool (decide (i2 < (a0.length : Int))))) rfl ?_
        exact RunOps.nil' (Norm.mk [] (by decide) (by decide) (by decide) ⟨.d _, .d _, .d _, .d _, trivial⟩ trivial)
      refine NWp.condF (t := decide (i2 < (a0.length : Int))) rfl hc6 ?_
      refine NWp.norm (s0 := ⟨tab [], stab [], 0⟩) (Norm.mk [] (by decide) (by decide) (by decide) trivial trivial) ?_
      refine NWp.exit ?_
      exact And.intro rfl rfl
    · intro r' hq
      subst hq
      exact Option.some.inj h
    rintro ⟨⟩ rfl
    refine NWp.opsJ ⟨tab [(4, .d (.bool true))], stab [], 0⟩ ?_ ?_
    · refine step (v := .d (.bool true)) rfl ?_
      exact RunOps.nil' (Norm.mk [] (by decide) (by decide) (by decide) ⟨.d _, trivial⟩ trivial)
    have hh := Option.some.inj h
    subst hh
    refine NWp.ret ?_
    show FQ _ _ _ _
    exact FQ.mk1 (.inr rfl) (res_t (v := .d (.bool true)) rfl rfl) (RV.d trivial)

theorem c_law26_SlimKeeps {a0 : (List api_Row)} {a1 : (List (A8 Int))} {r : Bool} (h : law26_SlimKeeps a0 a1 = some r) : PCall Try.prog 10 [eL (some 2) eapi_Row a0, eL (some 8) (eA8 (D.int .u16)) a1] (.bool r) := by
  refine PCall.introN ok10 (show 2 ≤ 119 by decide) ?_
  refine NWp.norm (s0 := ⟨tab [(0, .d (eL (some 2) eapi_Row a0)), (1, .d (eL (some 8) (eA8 (D.int .u16)) a1))], stab [], 0⟩) (Norm.mk [] (by decide) (by decide) (by decide) ⟨.d _, .d _, trivial⟩ trivial) ?_
  refine NWp.opsJ ⟨tab [(0, .d (eL (some 2) eapi_Row a0)), (1, .d (eL (some 8) (eA8 (D.int .u16)) a1))], stab [], 0⟩ ?_ ?_
  · refine step (v := .d (.bool false)) rfl ?_
    exact RunOps.nil' (Norm.mk [] (by decide) (by decide) (by decide) ⟨.d _, .d _, trivial⟩ trivial)
  refine NWp.seq ?_
  obtain ⟨r1, hr1, h⟩ := bindE h
  refine NWp.opsJ ⟨tab [(0, .d (eL (some 2) eapi_Row a0)), (1, .d (eL (some 8) (eA8 (D.int .u16)) a1)), (18, .d (.bool (!r1)))], stab [], 0⟩ ?_ ?_
  · refine stepC (r := .bool r1) ArgsOk.nil' (c_law26_awake hr1) ?_
    refine step (v := .d (.bool (!r1))) rfl ?_
    exact RunOps.nil' (Norm.mk [] (by decide) (by decide) (by decide) ⟨.d _, .d _, .d _, trivial⟩ trivial)
  by_cases hc2 : (!r1) = true
  · replace h := iteT hc2 h
    refine NWp.condT (t := (!r1)) rfl hc2 ?_
    refine NWp.opsJ ⟨tab [(4, .d (.bool false))], stab [], 0⟩ ?_ ?_
    · refine step (v := .d (.bool false)) rfl ?_
      exact RunOps.nil' (Norm.mk [] (by decide) (by decide) (by decide) ⟨.d _, trivial⟩ trivial)
    have hh := Option.some.inj h
    subst hh
    refine NWp.ret ?_
    show FQ _ _ _ _
    exact FQ.mk1 (.inr rfl) (res_t (v := .d (.bool false)) rfl rfl) (RV.d trivial)
  · replace h := iteF hc2 h
    refine NWp.condF (t := (!r1)) rfl hc2 ?_
    refine NWp.skip ?_
    refine NWp.seq ?_
    obtain ⟨y8, hv, h⟩ := bindE h
    refine NWp.opsJ ⟨tab [(0, .d (eL (some 2) eapi_Row a0)), (1, .d (eL (some 8) (eA8 (D.int .u16)) a1)), (36, .d (.bool y8))], stab [], 0⟩ ?_ ?_
    · refine step (v := .d (eL (some 2) eapi_Row a0)) rfl ?_
      refine step (v := .d (.int .i64 (a0.length : Int))) (st_len (xs := a0) (e := eapi_Row) rfl) ?_
      refine step (v := .d (.bool (decide ((a0.length : Int) > 14)))) rfl ?_
      refine step (v := .d (.bool (decide ((a0.length : Int) > 14)))) rfl ?_
      by_cases hg3 : decide ((a0.length : Int) > 14) = true
      · replace hv := iteT hg3 hv
        refine stepX (c := decide ((a0.length : Int) > 14)) rfl (by rw [hg3]; decide) ?_
        refine stepX (c := decide ((a0.length : Int) > 14)) rfl (by rw [hg3]; decide) ?_
        refine stepX (c := decide ((a0.length : Int) > 14)) rfl (by rw [hg3]; decide) ?_
        refine step (v := .d (.bool true)) (st_pickT (b := decide ((a0.length : Int) > 14)) rfl hg3 rfl) ?_
        refine step (v := .d (.bool true)) rfl ?_
        refine stepX (c := true) rfl (by decide) ?_
        refine stepX (c := true) rfl (by decide) ?_
        refine stepX (c := true) rfl (by decide) ?_
        refine step (v := .d (.bool true)) (st_pickT (b := true) rfl rfl rfl) ?_
        refine step (v := .d (.bool true)) rfl ?_
        refine stepX (c := true) rfl (by decide) ?_
        refine stepX (c := true) rfl (by decide) ?_
        refine stepX (c := true) rfl (by decide) ?_
        refine step (v := .d (.bool true)) (st_pickT (b := true) rfl rfl rfl) ?_
        have hh := Option.some.inj hv
        subst hh
        exact RunOps.nil' (Norm.mk [] (by decide) (by decide) (by decide) ⟨.d _, .d _, .d _, trivial⟩ trivial)
      · replace hv := iteF hg3 hv
        refine stepG (c := decide ((a0.length : Int) > 14)) rfl (Bool.eq_false_iff.2 hg3) ?_
        refine step (v := .d (eL (some 8) (eA8 (D.int .u16)) a1)) rfl ?_
        refine stepG (c := decide ((a0.length : Int) > 14)) rfl (Bool.eq_false_iff.2 hg3) ?_
        refine step (v := .d (.int .i64 (a1.length : Int))) (st_len (xs := a1) (e := (eA8 (D.int .u16))) rfl) ?_
        refine stepG (c := decide ((a0.length : Int) > 14)) rfl (Bool.eq_false_iff.2 hg3) ?_
        refine step (v := .d (.bool (decide ((a1.length : Int) > 20)))) rfl ?_
        refine step (v := .d (.bool (decide ((a1.length : Int) > 20)))) (st_pickF (b := decide ((a0.length : Int) > 14)) rfl hg3 rfl) ?_
        refine step (v := .d (.bool (decide ((a1.length : Int) > 20)))) rfl ?_
        by_cases hg4 : decide ((a1.length : Int) > 20) = true
        · replace hv := iteT hg4 hv
          refine stepX (c := decide ((a1.length : Int) > 20)) rfl (by rw [hg4]; decide) ?_
          refine stepX (c := decide ((a1.length : Int) > 20)) rfl (by rw [hg4]; decide) ?_
          refine stepX (c := decide ((a1.length : Int) > 20)) rfl (by rw [hg4]; decide) ?_
          refine step (v := .d (.bool true)) (st_pickT (b := decide ((a1.length : Int) > 20)) rfl hg4 rfl) ?_
          refine step (v := .d (.bool true)) rfl ?_
          refine stepX (c := true) rfl (by decide) ?_
          refine stepX (c := true) rfl (by decide) ?_
          refine stepX (c := true) rfl (by decide) ?_
          refine step (v := .d (.bool true)) (st_pickT (b := true) rfl rfl rfl) ?_
          have hh := Option.some.inj hv
          subst hh
          exact RunOps.nil' (Norm.mk [] (by decide) (by decide) (by decide) ⟨.d _, .d _, .d _, trivial⟩ trivial)
        · replace hv := iteF hg4 hv
          obtain ⟨r5, hr5, hv⟩ := bindE hv
          refine stepG (c := decide ((a1.length : Int) > 20)) rfl (Bool.eq_false_iff.2 hg4) ?_
          refine step (v := .d (eL (some 2) eapi_Row a0)) rfl ?_
          refine stepG (c := decide ((a1.length : Int) > 20)) rfl (Bool.eq_false_iff.2 hg4) ?_
          refine stepC (r := .bool r5) (ArgsOk.dt ArgsOk.nil') (c_law09_Few hr5) ?_
          refine stepG (c := decide ((a1.length : Int) > 20)) rfl (Bool.eq_false_iff.2 hg4) ?_
          refine step (v := .d (.bool (!r5))) rfl ?_
          refine step (v := .d (.bool (!r5))) (st_pickF (b := decide ((a1.length : Int) > 20)) rfl hg4 rfl) ?_
          refine step (v := .d (.bool (!r5))) rfl ?_
          by_cases hg6 : (!r5) = true
          · replace hv := iteT hg6 hv
            refine stepX (c := (!r5)) rfl (by rw [hg6]; decide) ?_
            refine stepX (c := (!r5)) rfl (by rw [hg6]; decide) ?_
            refine stepX (c := (!r5)) rfl (by rw [hg6]; decide) ?_
            refine step (v := .d (.bool true)) (st_pickT (b := (!r5)) rfl hg6 rfl) ?_
            have hh := Option.some.inj hv
            subst hh
            exact RunOps.nil' (Norm.mk [] (by decide) (by decide) (by decide) ⟨.d _, .d _, .d _, trivial⟩ trivial)
          · replace hv := iteF hg6 hv
            obtain ⟨r7, hr7, hv⟩ := bindE hv
            refine stepG (c := (!r5)) rfl (Bool.eq_false_iff.2 hg6) ?_
            refine step (v := .d (eL (some 2) eapi_Row a0)) rfl ?_
            refine stepG (c := (!r5)) rfl (Bool.eq_false_iff.2 hg6) ?_
            refine stepC (r := .bool r7) (ArgsOk.dt ArgsOk.nil') (c_ref09_Right hr7) ?_
            refine stepG (c := (!r5)) rfl (Bool.eq_false_iff.2 hg6) ?_
            refine step (v := .d (.bool (!r7))) rfl ?_
            refine step (v := .d (.bool (!r7))) (st_pickF (b := (!r5)) rfl hg6 rfl) ?_
            have hh := Option.some.inj hv
            subst hh
            exact RunOps.nil' (Norm.mk [] (by decide) (by decide) (by decide) ⟨.d _, .d _, .d _, trivial⟩ trivial)
    by_cases hc10 : y8 = true
    · replace h := iteT hc10 h
      refine NWp.condT (t := y8) rfl hc10 ?_
      refine NWp.opsJ ⟨tab [(4, .d (.bool true))], stab [], 0⟩ ?_ ?_
      · refine step (v := .d (.bool true)) rfl ?_
        exact RunOps.nil' (Norm.mk [] (by decide) (by decide) (by decide) ⟨.d _, trivial⟩ trivial)
      have hh := Option.some.inj h
      subst hh
      refine NWp.ret ?_
      show FQ _ _ _ _
      exact FQ.mk1 (.inr rfl) (res_t (v := .d (.bool true)) rfl rfl) (RV.d trivial)
    · replace h := iteF hc10 h
      refine NWp.condF (t := y8) rfl hc10 ?_
      refine NWp.skip ?_
      obtain ⟨l11, hl11, h⟩ := bindE h
      refine NWp.opsJ ⟨tab [(0, .d (eL (some 2) eapi_Row a0)), (1, .d (eL (some 8) (eA8 (D.int .u16)) a1)), (5, .loc 0 0 l11.length)], stab [(0, .lst false (some 2) (List.map eapi_Row l11))], 1⟩ ?_ ?_
      · refine step (v := .loc 0 0 (([] : List api_Row).length)) (σ' := (upd (stab []) 0 (some (.lst false (some 2) (List.map eapi_Row ([] : List api_Row)))))) (n' := 1) rfl ?_
        refine step (v := .d (eL (some 2) eapi_Row a0)) rfl ?_
        refine step (v := .loc 1 0 l11.length) (σ' := (upd (upd (upd (stab []) 0 (some (.lst false (some 2) (List.map eapi_Row ([] : List api_Row))))) 0 none) 1 (some (.lst false (some 2) (List.map eapi_Row l11))))) (n' := 2) (st_app (xs := ([] : List api_Row)) (ys := a0) (e := eapi_Row) hl11 rfl rfl rfl (src_v (xs := a0) (e := eapi_Row) rfl)) ?_
        refine step (v := .loc 1 0 l11.length) rfl ?_
        exact RunOps.nil' (Norm.mk [1] (by decide) (by decide) (by decide) ⟨.d _, .d _, .loc 0 _ _ (show 0 < 1 by decide), trivial⟩ ⟨⟨show 0 < 1 by decide, _, rfl, .lst _ _ _⟩, trivial⟩)
      obtain ⟨r12, hr12, h⟩ := bindE h
      refine NWp.opsJ ⟨tab [(0, .d (eL (some 2) eapi_Row a0)), (1, .d (eL (some 8) (eA8 (D.int .u16)) a1)), (5, .loc 0 0 l11.length), (6, .d (eL (some 2) eapi_Row r12))], stab [(0, .lst false (some 2) (List.map eapi_Row l11))], 1⟩ ?_ ?_
      · refine step (v := .d (eL (some 2) eapi_Row a0)) rfl ?_
        refine stepC (r := eL (some 2) eapi_Row r12) (ArgsOk.dt ArgsOk.nil') (c_slim_Slim hr12) ?_
        refine step (v := .d (eL (some 2) eapi_Row r12)) rfl ?_
        exact RunOps.nil' (Norm.mk [0] (by decide) (by decide) (by decide) ⟨.d _, .d _, .loc 0 _ _ (show 0 < 1 by decide), .d _, trivial⟩ ⟨⟨show 0 < 1 by decide, _, rfl, .lst _ _ _⟩, trivial⟩)
      refine NWp.seq ?_
      obtain ⟨r13, hr13, h⟩ := bindE h
      obtain ⟨y18, hv, h⟩ := bindE h
      refine NWp.opsJ ⟨tab [(0, .d (eL (some 2) eapi_Row a0)), (1, .d (eL (some 8) (eA8 (D.int .u16)) a1)), (6, .d (eL (some 2) eapi_Row r12)), (59, .d (.bool y18))], stab [], 0⟩ ?_ ?_
      · refine step (v := .loc 0 0 l11.length) rfl ?_
        refine step (v := .d (eL (some 2) eapi_Row a0)) rfl ?_
        refine stepC (r := .bool r13) (ArgsOk.lcm (xs := l11) (e := eapi_Row) rfl rfl (ArgsOk.dt ArgsOk.nil')) (c_ref09_Same hr13) ?_
        refine step (v := .d (.bool (!r13))) rfl ?_
        refine step (v := .d (.bool (!r13))) rfl ?_
        by_cases hg14 : (!r13) = true
        · replace hv := iteT hg14 hv
          refine stepX (c := (!r13)) rfl (by rw [hg14]; decide) ?_
          refine stepX (c := (!r13)) rfl (by rw [hg14]; decide) ?_
          refine stepX (c := (!r13)) rfl (by rw [hg14]; decide) ?_
          refine stepX (c := (!r13)) rfl (by rw [hg14]; decide) ?_
          refine stepX (c := (!r13)) rfl (by rw [hg14]; decide) ?_
          refine step (v := .d (.bool true)) (st_pickT (b := (!r13)) rfl hg14 rfl) ?_
          refine step (v := .d (.bool true)) rfl ?_
          refine stepX (c := true) rfl (by decide) ?_
          refine stepX (c := true) rfl (by decide) ?_
          refine stepX (c := true) rfl (by decide) ?_
          refine stepX (c := true) rfl (by decide) ?_
          refine stepX (c := true) rfl (by decide) ?_
          refine step (v := .d (.bool true)) (st_pickT (b := true) rfl rfl rfl) ?_
          have hh := Option.some.inj hv
          subst hh
          exact RunOps.nil' (Norm.mk [] (by decide) (by decide) (by decide) ⟨.d _, .d _, .d _, .d _, trivial⟩ trivial)
        · replace hv := iteF hg14 hv
          refine stepG (c := (!r13)) rfl (Bool.eq_false_iff.2 hg14) ?_
          refine step (v := .d (eL (some 2) eapi_Row r12)) rfl ?_
          refine stepG (c := (!r13)) rfl (Bool.eq_false_iff.2 hg14) ?_
          refine step (v := .d (.int .i64 (r12.length : Int))) (st_len (xs := r12) (e := eapi_Row) rfl) ?_
          refine stepG (c := (!r13)) rfl (Bool.eq_false_iff.2 hg14) ?_
          refine step (v := .d (eL (some 2) eapi_Row a0)) rfl ?_
          refine stepG (c := (!r13)) rfl (Bool.eq_false_iff.2 hg14) ?_
          refine step (v := .d (.int .i64 (a0.length : Int))) (st_len (xs := a0) (e := eapi_Row) rfl) ?_
          refine stepG (c := (!r13)) rfl (Bool.eq_false_iff.2 hg14) ?_
          refine step (v := .d (.bool (decide ((r12.length : Int) > (a0.length : Int))))) rfl ?_
          refine step (v := .d (.bool (decide ((r12.length : Int) > (a0.length : Int))))) (st_pickF (b := (!r13)) rfl hg14 rfl) ?_
          refine step (v := .d (.bool (decide ((r12.length : Int) > (a0.length : Int))))) rfl ?_
          by_cases hg15 : decide ((r12.length : Int) > (a0.length : Int)) = true
          · replace hv := iteT hg15 hv
            refine stepX (c := decide ((r12.length : Int) > (a0.length : Int))) rfl (by rw [hg15]; decide) ?_
            refine stepX (c := decide ((r12.length : Int) > (a0.length : Int))) rfl (by rw [hg15]; decide) ?_
            refine stepX (c := decide ((r12.length : Int) > (a0.length : Int))) rfl (by rw [hg15]; decide) ?_
            refine stepX (c := decide ((r12.length : Int) > (a0.length : Int))) rfl (by rw [hg15]; decide) ?_
            refine stepX (c := decide ((r12.length : Int) > (a0.length : Int))) rfl (by rw [hg15]; decide) ?_
            refine step (v := .d (.bool true)) (st_pickT (b := decide ((r12.length : Int) > (a0.length : Int))) rfl hg15 rfl) ?_
            have hh := Option.some.inj hv
            subst hh
            exact RunOps.nil' (Norm.mk [] (by decide) (by decide) (by decide) ⟨.d _, .d _, .d _, .d _, trivial⟩ trivial)
          · replace hv := iteF hg15 hv
            obtain ⟨r16, hr16, hv⟩ := bindE hv
            obtain ⟨r17, hr17, hv⟩ := bindE hv
            refine stepG (c := decide ((r12.length : Int) > (a0.length : Int))) rfl (Bool.eq_false_iff.2 hg15) ?_
            refine step (v := .d (eL (some 2) eapi_Row r12)) rfl ?_
            refine stepG (c := decide ((r12.length : Int) > (a0.length : Int))) rfl (Bool.eq_false_iff.2 hg15) ?_
            refine stepC (r := eL (some 2) eapi_Row r16) (ArgsOk.dt ArgsOk.nil') (c_slim_Slim hr16) ?_
            refine stepG (c := decide ((r12.length : Int) > (a0.length : Int))) rfl (Bool.eq_false_iff.2 hg15) ?_
            refine step (v := .d (eL (some 2) eapi_Row r12)) rfl ?_
            refine stepG (c := decide ((r12.length : Int) > (a0.length : Int))) rfl (Bool.eq_false_iff.2 hg15) ?_
            refine stepC (r := .bool r17) (ArgsOk.dt (ArgsOk.dt ArgsOk.nil')) (c_ref09_Same hr17) ?_
            refine stepG (c := decide ((r12.length : Int) > (a0.length : Int))) rfl (Bool.eq_false_iff.2 hg15) ?_
            refine step (v := .d (.bool (!r17))) rfl ?_
            refine step (v := .d (.bool (!r17))) (st_pickF (b := decide ((r12.length : Int) > (a0.length : Int))) rfl hg15 rfl) ?_
            have hh := Option.some.inj hv
            subst hh
            exact RunOps.nil' (Norm.mk [] (by decide) (by decide) (by decide) ⟨.d _, .d _, .d _, .d _, trivial⟩ trivial)
      by_cases hc20 : y18 = true
      · replace h := iteT hc20 h
        refine NWp.condT (t := y18) rfl hc20 ?_
        refine NWp.opsJ ⟨tab [(4, .d (.bool false))], stab [], 0⟩ ?_ ?_
        · refine step (v := .d (.bool false)) rfl ?_
          exact RunOps.nil' (Norm.mk [] (by decide) (by decide) (by decide) ⟨.d _, trivial⟩ trivial)
        have hh := Option.some.inj h
        subst hh
        refine NWp.ret ?_
        show FQ _ _ _ _
        exact FQ.mk1 (.inr rfl) (res_t (v := .d (.bool false)) rfl rfl) (RV.d trivial)
      · replace h := iteF hc20 h
        refine NWp.condF (t := y18) rfl hc20 ?_
        refine NWp.skip ?_
        refine NWp.opsJ ⟨tab [(0, .d (eL (some 2) eapi_Row a0)), (1, .d (eL (some 8) (eA8 (D.int .u16)) a1)), (6, .d (eL (some 2) eapi_Row r12)), (7, .d (.int .i64 0))], stab [], 0⟩ ?_ ?_
        · refine step (v := .d (.int .i64 0)) rfl ?_
          exact RunOps.nil' (Norm.mk [] (by decide) (by decide) (by decide) ⟨.d _, .d _, .d _, .d _, trivial⟩ trivial)
        refine NWp.seq ?_
        refine NWp.opsJ ⟨tab [(0, .d (eL (some 2) eapi_Row a0)), (1, .d (eL (some 8) (eA8 (D.int .u16)) a1)), (6, .d (eL (some 2) eapi_Row r12)), (7, .d (.int .i64 0)), (60, .d (eL (some 2) eapi_Row a0)), (61, .d (.int .i64 (a0.length : Int))), (62, .d (.int .i64 0))], stab [], 0⟩ ?_ ?_
        · refine step (v := .d (eL (some 2) eapi_Row a0)) rfl ?_
          refine step (v := .d (.int .i64 (a0.length : Int))) (st_len (xs := a0) (e := eapi_Row) rfl) ?_
          refine step (v := .d (.int .i64 0)) rfl ?_
          exact RunOps.nil' (Norm.mk [] (by decide) (by decide) (by decide) ⟨.d _, .d _, .d _, .d _, .d _, .d _, .d _, trivial⟩ trivial)
        obtain ⟨z37, hl, h⟩ := bindE h
        refine NWp.block ?_
        refine loop_forO (cntU (a0.length : Int)) (fun (i22 : Int) (qq : Int) => ⟨tab [(0, .d (eL (some 2) eapi_Row a0)), (1, .d (eL (some 8) (eA8 (D.int .u16)) a1)), (6, .d (eL (some 2) eapi_Row r12)), (7, .d (.int .i64 qq)), (60, .d (eL (some 2) eapi_Row a0)), (61, .d (.int .i64 (a0.length : Int))), (62, .d (.int .i64 i22))], stab [], 0⟩) 0 (fun (qq : Int) => ⟨tab [(0, .d (eL (some 2) eapi_Row a0)), (1, .d (eL (some 8) (eA8 (D.int .u16)) a1)), (6, .d (eL (some 2) eapi_Row r12)), (7, .d (.int .i64 qq))], stab [], 0⟩) Low low_step hl (by unfold Low; omega) ?_ ?_ ?_
        · rintro i22 i21 xr27 hinv25 hgo24 h
          show NWp _ _ _ _ _ ⟨tab [(0, .d (eL (some 2) eapi_Row a0)), (1, .d (eL (some 8) (eA8 (D.int .u16)) a1)), (6, .d (eL (some 2) eapi_Row r12)), (7, .d (.int .i64 i21)), (60, .d (eL (some 2) eapi_Row a0)), (61, .d (.int .i64 (a0.length : Int))), (62, .d (.int .i64 i22))], stab [], 0⟩
          have hc26 : decide (i22 < (a0.length : Int)) = true := decide_eq_true hgo24
          refine NWp.opsJ ⟨tab [(0, .d (eL (some 2) eapi_Row a0)), (1, .d (eL (some 8) (eA8 (D.int .u16)) a1)), (6, .d (eL (some 2) eapi_Row r12)), (7, .d (.int .i64 i21)), (60, .d (eL (some 2) eapi_Row a0)), (61, .d (.int .i64 (a0.length : Int))), (62, .d (.int .i64 i22)), (63, .d (.bool (decide (i22 < (a0.length : Int)))))], stab [], 0⟩ ?_ ?_
          · refine step (v := .d (.bool (decide (i22 < (a0.length : Int))))) rfl ?_
            exact RunOps.nil' (Norm.mk [] (by decide) (by decide) (by decide) ⟨.d _, .d _, .d _, .d _, .d _, .d _, .d _, .d _, trivial⟩ trivial)
          refine NWp.rng 61 rfl fun hB23 => ?_
          refine NWp.seq ?_
          refine NWp.condT (t := decide (i22 < (a0.length : Int))) rfl hc26 ?_
          refine NWp.skip ?_
          obtain ⟨y35, hv, h⟩ := bindE h
          refine NWp.seqN ⟨tab [(0, .d (eL (some 2) eapi_Row a0)), (1, .d (eL (some 8) (eA8 (D.int .u16)) a1)), (6, .d (eL (some 2) eapi_Row r12)), (7, .d (.int .i64 y35)), (60, .d (eL (some 2) eapi_Row a0)), (61, .d (.int .i64 (a0.length : Int))), (62, .d (.int .i64 i22))], stab [], 0⟩ ?_ ?_
          · replace h := hv
            refine NWp.block ?_
            obtain ⟨x28, hx28, h⟩ := bindE h
            refine NWp.opsJ ⟨tab [(0, .d (eL (some 2) eapi_Row a0)), (1, .d (eL (some 8) (eA8 (D.int .u16)) a1)), (6, .d (eL (some 2) eapi_Row r12)), (7, .d (.int .i64 i21)), (9, .ptr 0 0 0), (60, .d (eL (some 2) eapi_Row a0)), (61, .d (.int .i64 (a0.length : Int))), (62, .d (.int .i64 i22))], stab [(0, .var [.d (eL (some 2) eapi_Pair x28.Match), .d (eL none (eL (some 2) eapi_Pair) x28.Acts)])], 1⟩ ?_ ?_
            · refine step (v := .d (.cptr (some 2) (eapi_Row x28) 0)) (st_iaddr (xs := a0) (e := eapi_Row) hx28 rfl rfl) ?_
              refine step (v := .d (eapi_Row x28)) rfl ?_
              refine step (v := .ptr 0 0 0) (σ' := (upd (stab []) 0 (some (.var [.d (eL (some 2) eapi_Pair []), .d (eL none (eL (some 2) eapi_Pair) [])])))) (n' := 1) rfl ?_
              refine step (v := V.undef) (σ' := (upd (upd (stab []) 0 (some (.var [.d (eL (some 2) eapi_Pair []), .d (eL none (eL (some 2) eapi_Pair) [])]))) 0 (some (.var [.d (eL (some 2) eapi_Pair x28.Match), .d (eL none (eL (some 2) eapi_Pair) x28.Acts)])))) (n' := 1) rfl ?_
              exact RunOps.nil' (Norm.mk [0] (by decide) (by decide) (by decide) ⟨.d _, .d _, .d _, .d _, .ptr 0 _ _ (show 0 < 1 by decide), .d _, .d _, .d _, trivial⟩ ⟨⟨show 0 < 1 by decide, _, rfl, .vars ⟨.d _, .d _, trivial⟩⟩, trivial⟩)
            obtain ⟨y32, hv, h⟩ := bindE h
            refine NWp.opsJ ⟨tab [(0, .d (eL (some 2) eapi_Row a0)), (1, .d (eL (some 8) (eA8 (D.int .u16)) a1)), (6, .d (eL (some 2) eapi_Row r12)), (7, .d (.int .i64 i21)), (60, .d (eL (some 2) eapi_Row a0)), (61, .d (.int .i64 (a0.length : Int))), (62, .d (.int .i64 i22)), (79, .d (.bool y32))], stab [], 0⟩ ?_ ?_
            · refine step (v := .d (.int .i64 i21)) rfl ?_
              refine step (v := .d (eL (some 2) eapi_Row r12)) rfl ?_
              refine step (v := .d (.int .i64 (r12.length : Int))) (st_len (xs := r12) (e := eapi_Row) rfl) ?_
              refine step (v := .d (.bool (decide (i21 < (r12.length : Int))))) rfl ?_
              refine step (v := .d (.bool (decide (i21 < (r12.length : Int))))) rfl ?_
              by_cases hg29 : decide (i21 < (r12.length : Int)) = true
              · replace hv := iteT hg29 hv
                obtain ⟨l30, hl30, hv⟩ := bindE hv
                obtain ⟨r31, hr31, hv⟩ := bindE hv
                refine stepG (c := decide (i21 < (r12.length : Int))) rfl hg29 ?_
                refine step (v := .d (eapi_Row x28)) (st_ldV (ds := [eL (some 2) eapi_Pair x28.Match, eL none (eL (some 2) eapi_Pair) x28.Acts]) rfl rfl (show 2 ≤ 2 by decide) rfl) ?_
                refine stepG (c := decide (i21 < (r12.length : Int))) rfl hg29 ?_
                refine step (v := .d (eL (some 2) eapi_Row ([x28] : List api_Row))) rfl ?_
                refine stepG (c := decide (i21 < (r12.length : Int))) rfl hg29 ?_
                refine step (v := .d (eL (some 2) eapi_Row r12)) rfl ?_
                refine stepG (c := decide (i21 < (r12.length : Int))) rfl hg29 ?_
                refine step (v := .d (.int .i64 i21)) rfl ?_
                refine stepG (c := decide (i21 < (r12.length : Int))) rfl hg29 ?_
                refine step (v := .d (.int .i64 i21)) rfl ?_
                refine stepG (c := decide (i21 < (r12.length : Int))) rfl hg29 ?_
                refine step (v := .d (.int .i64 (IntKind.i64.wrap (i21 + 1)))) rfl ?_
                refine stepG (c := decide (i21 < (r12.length : Int))) rfl hg29 ?_
                refine step (v := .d (eL (some 2) eapi_Row l30)) (st_slc (xs := r12) (e := eapi_Row) hl30 rfl ⟨_, rfl⟩ ⟨_, rfl⟩) ?_
                refine stepG (c := decide (i21 < (r12.length : Int))) rfl hg29 ?_
                refine stepC (r := .bool r31) (ArgsOk.dt (ArgsOk.dt ArgsOk.nil')) (c_ref09_Same hr31) ?_
                refine step (v := .d (.bool r31)) (st_pickT (b := decide (i21 < (r12.length : Int))) rfl hg29 rfl) ?_
                have hh := Option.some.inj hv
                subst hh
                exact RunOps.nil' (Norm.mk [] (by decide) (by decide) (by decide) ⟨.d _, .d _, .d _, .d _, .d _, .d _, .d _, .d _, trivial⟩ trivial)
              · replace hv := iteF hg29 hv
                refine stepX (c := decide (i21 < (r12.length : Int))) rfl hg29 ?_
                refine stepX (c := decide (i21 < (r12.length : Int))) rfl hg29 ?_
                refine stepX (c := decide (i21 < (r12.length : Int))) rfl hg29 ?_
                refine stepX (c := decide (i21 < (r12.length : Int))) rfl hg29 ?_
                refine stepX (c := decide (i21 < (r12.length : Int))) rfl hg29 ?_
                refine stepX (c := decide (i21 < (r12.length : Int))) rfl hg29 ?_
                refine stepX (c := decide (i21 < (r12.length : Int))) rfl hg29 ?_
                refine stepX (c := decide (i21 < (r12.length : Int))) rfl hg29 ?_
                refine step (v := .d (.bool false)) (st_pickF (b := decide (i21 < (r12.length : Int))) rfl hg29 rfl) ?_
                have hh := Option.some.inj hv
                subst hh
                exact RunOps.nil' (Norm.mk [] (by decide) (by decide) (by decide) ⟨.d _, .d _, .d _, .d _, .d _, .d _, .d _, .d _, trivial⟩ trivial)
            by_cases hc34 : y32 = true
            · replace h := iteT hc34 h
              refine NWp.condT (t := y32) rfl hc34 ?_
              have hh := Option.some.inj h
              subst hh
              refine NWp.opsE ⟨tab [(0, .d (eL (some 2) eapi_Row a0)), (1, .d (eL (some 8) (eA8 (D.int .u16)) a1)), (6, .d (eL (some 2) eapi_Row r12)), (7, .d (.int .i64 (IntKind.i64.wrap (i21 + 1)))), (60, .d (eL (some 2) eapi_Row a0)), (61, .d (.int .i64 (a0.length : Int))), (62, .d (.int .i64 i22))], stab [], 0⟩ ?_ ?_
              · refine step (v := .d (.int .i64 i21)) rfl ?_
                refine step (v := .d (.int .i64 (IntKind.i64.wrap (i21 + 1)))) rfl ?_
                refine step (v := .d (.int .i64 (IntKind.i64.wrap (i21 + 1)))) rfl ?_
                exact RunOps.nil' (Norm.mk [] (by decide) (by decide) (by decide) ⟨.d _, .d _, .d _, .d _, .d _, .d _, .d _, trivial⟩ trivial)
              exact And.intro rfl rfl
            · replace h := iteF hc34 h
              refine NWp.condF (t := y32) rfl hc34 ?_
              have hh := Option.some.inj h
              subst hh
              refine NWp.norm (s0 := ⟨tab [(0, .d (eL (some 2) eapi_Row a0)), (1, .d (eL (some 8) (eA8 (D.int .u16)) a1)), (6, .d (eL (some 2) eapi_Row r12)), (7, .d (.int .i64 i21)), (60, .d (eL (some 2) eapi_Row a0)), (61, .d (.int .i64 (a0.length : Int))), (62, .d (.int .i64 i22))], stab [], 0⟩) (Norm.mk [] (by decide) (by decide) (by decide) ⟨.d _, .d _, .d _, .d _, .d _, .d _, .d _, trivial⟩ trivial) ?_
              refine NWp.skip ?_
              exact And.intro rfl rfl
          have hh := Option.some.inj h
          subst hh
          refine NWp.opsE ⟨tab [(0, .d (eL (some 2) eapi_Row a0)), (1, .d (eL (some 8) (eA8 (D.int .u16)) a1)), (6, .d (eL (some 2) eapi_Row r12)), (7, .d (.int .i64 y35)), (60, .d (eL (some 2) eapi_Row a0)), (61, .d (.int .i64 (a0.length : Int))), (62, .d (.int .i64 (i22 + 1)))], stab [], 0⟩ ?_ ?_
          · refine step (v := .d (.int .i64 (i22 + 1))) (st_inc (inc_ok hinv25 hgo24 hB23) rfl rfl) ?_
            refine step (v := .d (.int .i64 (i22 + 1))) rfl ?_
            exact RunOps.nil' (Norm.mk [] (by decide) (by decide) (by decide) ⟨.d _, .d _, .d _, .d _, .d _, .d _, .d _, trivial⟩ trivial)
          exact And.intro rfl rfl
        · rintro i22 i21 hinv25 hgo24
          show NWp _ _ _ _ _ ⟨tab [(0, .d (eL (some 2) eapi_Row a0)), (1, .d (eL (some 8) (eA8 (D.int .u16)) a1)), (6, .d (eL (some 2) eapi_Row r12)), (7, .d (.int .i64 i21)), (60, .d (eL (some 2) eapi_Row a0)), (61, .d (.int .i64 (a0.length : Int))), (62, .d (.int .i64 i22))], stab [], 0⟩
          have hc26 : ¬ (decide (i22 < (a0.length : Int)) = true) := fun hq => hgo24 (of_decide_eq_true hq)
          refine NWp.opsJ ⟨tab [(0, .d (eL (some 2) eapi_Row a0)), (1, .d (eL (some 8) (eA8 (D.int .u16)) a1)), (6, .d (eL (some 2) eapi_Row r12)), (7, .d (.int .i64 i21)), (60, .d (eL (some 2) eapi_Row a0)), (61, .d (.int .i64 (a0.length : Int))), (62, .d (.int .i64 i22)), (63, .d (.bool (decide (i22 < (a0.length : Int)))))], stab [], 0⟩ ?_ ?_
          · refine step (v := .d (.bool (decide (i22 < (a0.length : Int))))) rfl ?_
            exact RunOps.nil' (Norm.mk [] (by decide) (by decide) (by decide) ⟨.d _, .d _, .d _, .d _, .d _, .d _, .d _, .d _, trivial⟩ trivial)
          refine NWp.seq ?_
          refine NWp.condF (t := decide (i22 < (a0.length : Int))) rfl hc26 ?_
          refine NWp.norm (s0 := ⟨tab [(0, .d (eL (some 2) eapi_Row a0)), (1, .d (eL (some 8) (eA8 (D.int .u16)) a1)), (6, .d (eL (some 2) eapi_Row r12)), (7, .d (.int .i64 i21))], stab [], 0⟩) (Norm.mk [] (by decide) (by decide) (by decide) ⟨.d _, .d _, .d _, .d _, trivial⟩ trivial) ?_
          refine NWp.exit ?_
          exact And.intro rfl rfl
        refine NWp.seq ?_
        refine NWp.opsJ ⟨tab [(0, .d (eL (some 2) eapi_Row a0)), (1, .d (eL (some 8) (eA8 (D.int .u16)) a1)), (6, .d (eL (some 2) eapi_Row r12)), (86, .d (.bool (z37 != (r12.length : Int))))], stab [], 0⟩ ?_ ?_
        · refine step (v := .d (.int .i64 z37)) rfl ?_
          refine step (v := .d (eL (some 2) eapi_Row r12)) rfl ?_
          refine step (v := .d (.int .i64 (r12.length : Int))) (st_len (xs := r12) (e := eapi_Row) rfl) ?_
          refine step (v := .d (.bool (z37 != (r12.length : Int)))) rfl ?_
          exact RunOps.nil' (Norm.mk [] (by decide) (by decide) (by decide) ⟨.d _, .d _, .d _, .d _, trivial⟩ trivial)
        by_cases hc38 : (z37 != (r12.length : Int)) = true
        · replace h := iteT hc38 h
          refine NWp.condT (t := (z37 != (r12.length : Int))) rfl hc38 ?_
          refine NWp.opsJ ⟨tab [(4, .d (.bool false))], stab [], 0⟩ ?_ ?_
          · refine step (v := .d (.bool false)) rfl ?_
            exact RunOps.nil' (Norm.mk [] (by decide) (by decide) (by decide) ⟨.d _, trivial⟩ trivial)
          have hh := Option.some.inj h
          subst hh
          refine NWp.ret ?_
          show FQ _ _ _ _
          exact FQ.mk1 (.inr rfl) (res_t (v := .d (.bool false)) rfl rfl) (RV.d trivial)
        · replace h := iteF hc38 h
          refine NWp.condF (t := (z37 != (r12.length : Int))) rfl hc38 ?_
          refine NWp.skip ?_
          refine NWp.seq ?_
          refine NWp.opsJ ⟨tab [(0, .d (eL (some 2) eapi_Row a0)), (1, .d (eL (some 8) (eA8 (D.int .u16)) a1)), (6, .d (eL (some 2) eapi_Row r12)), (88, .d (.int .i64 (r12.length : Int))), (89, .d (.int .i64 0))], stab [], 0⟩ ?_ ?_
          · refine step (v := .d (eL (some 2) eapi_Row r12)) rfl ?_
            refine step (v := .d (.int .i64 (r12.length : Int))) (st_len (xs := r12) (e := eapi_Row) rfl) ?_
            refine step (v := .d (.int .i64 0)) rfl ?_
            exact RunOps.nil' (Norm.mk [] (by decide) (by decide) (by decide) ⟨.d _, .d _, .d _, .d _, .d _, trivial⟩ trivial)
          obtain ⟨q59, hl, h⟩ := bindE h
          refine NWp.block ?_
          refine loop_forR (cntU (r12.length : Int)) (fun (i39 : Int) (qq : Unit) => ⟨tab [(0, .d (eL (some 2) eapi_Row a0)), (1, .d (eL (some 8) (eA8 (D.int .u16)) a1)), (6, .d (eL (some 2) eapi_Row r12)), (88, .d (.int .i64 (r12.length : Int))), (89, .d (.int .i64 i39))], stab [], 0⟩) 2 (fun (qq : Unit) => ⟨tab [(0, .d (eL (some 2) eapi_Row a0)), (1, .d (eL (some 8) (eA8 (D.int .u16)) a1)), (6, .d (eL (some 2) eapi_Row r12))], stab [], 0⟩) Low low_step (r := r) hl (by unfold Low; omega) ?_ ?_ ?_ ?_
          · rintro i39 ⟨⟩ xr44 hinv42 hgo41 h
            show NWp _ _ _ _ _ ⟨tab [(0, .d (eL (some 2) eapi_Row a0)), (1, .d (eL (some 8) (eA8 (D.int .u16)) a1)), (6, .d (eL (some 2) eapi_Row r12)), (88, .d (.int .i64 (r12.length : Int))), (89, .d (.int .i64 i39))], stab [], 0⟩
            have hc43 : decide (i39 < (r12.length : Int)) = true := decide_eq_true hgo41
            refine NWp.opsJ ⟨tab [(0, .d (eL (some 2) eapi_Row a0)), (1, .d (eL (some 8) (eA8 (D.int .u16)) a1)), (6, .d (eL (some 2) eapi_Row r12)), (88, .d (.int .i64 (r12.length : Int))), (89, .d (.int .i64 i39)), (90, .d (.bool (decide (i39 < (r12.length : Int)))))], stab [], 0⟩ ?_ ?_
            · refine step (v := .d (.bool (decide (i39 < (r12.length : Int))))) rfl ?_
              exact RunOps.nil' (Norm.mk [] (by decide) (by decide) (by decide) ⟨.d _, .d _, .d _, .d _, .d _, .d _, trivial⟩ trivial)
            refine NWp.rng 88 rfl fun hB40 => ?_
            refine NWp.seq ?_
            refine NWp.condT (t := decide (i39 < (r12.length : Int))) rfl hc43 ?_
            refine NWp.skip ?_
            refine NWp.seq ?_
            refine NWp.block ?_
            refine NWp.opsJ ⟨tab [(0, .d (eL (some 2) eapi_Row a0)), (1, .d (eL (some 8) (eA8 (D.int .u16)) a1)), (6, .d (eL (some 2) eapi_Row r12)), (10, .d (.int .i64 i39)), (88, .d (.int .i64 (r12.length : Int))), (89, .d (.int .i64 i39))], stab [], 0⟩ ?_ ?_
            · refine step (v := .d (.int .i64 i39)) rfl ?_
              refine step (v := .d (.int .i64 i39)) rfl ?_
              exact RunOps.nil' (Norm.mk [] (by decide) (by decide) (by decide) ⟨.d _, .d _, .d _, .d _, .d _, .d _, trivial⟩ trivial)
            obtain ⟨r45, hr45, h⟩ := bindE h
            refine NWp.opsJ ⟨tab [(0, .d (eL (some 2) eapi_Row a0)), (1, .d (eL (some 8) (eA8 (D.int .u16)) a1)), (6, .d (eL (some 2) eapi_Row r12)), (88, .d (.int .i64 (r12.length : Int))), (89, .d (.int .i64 i39)), (94, .d (.bool r45))], stab [], 0⟩ ?_ ?_
            · refine step (v := .d (eL (some 2) eapi_Row r12)) rfl ?_
              refine step (v := .d (.int .i64 i39)) rfl ?_
              refine stepC (r := .bool r45) (ArgsOk.dt (ArgsOk.dt ArgsOk.nil')) (c_slim_Idle hr45) ?_
              exact RunOps.nil' (Norm.mk [] (by decide) (by decide) (by decide) ⟨.d _, .d _, .d _, .d _, .d _, .d _, trivial⟩ trivial)
            by_cases hc46 : r45 = true
            · replace h := iteT hc46 h
              refine NWp.condT (t := r45) rfl hc46 ?_
              refine NWp.opsJ ⟨tab [(4, .d (.bool false))], stab [], 0⟩ ?_ ?_
              · refine step (v := .d (.bool false)) rfl ?_
                exact RunOps.nil' (Norm.mk [] (by decide) (by decide) (by decide) ⟨.d _, trivial⟩ trivial)
              obtain ⟨r47, kr47, hr⟩ := mapE (o := some false) (g := Br.ret) h
              subst hr
              have h := kr47
              have hh := Option.some.inj h
              subst hh
              refine NWp.ret ?_
              refine And.intro (fun hn => nomatch hn) ?_
              intro hq
              have hq := hq.symm
              subst hq
              show FQ _ _ _ _
              exact FQ.mk1 (.inr rfl) (res_t (v := .d (.bool false)) rfl rfl) (RV.d trivial)
            · replace h := iteF hc46 h
              refine NWp.condF (t := r45) rfl hc46 ?_
              refine NWp.skip ?_
              have hh := Option.some.inj h
              subst hh
              refine NWp.opsE ⟨tab [(0, .d (eL (some 2) eapi_Row a0)), (1, .d (eL (some 8) (eA8 (D.int .u16)) a1)), (6, .d (eL (some 2) eapi_Row r12)), (88, .d (.int .i64 (r12.length : Int))), (89, .d (.int .i64 (i39 + 1)))], stab [], 0⟩ ?_ ?_
              · refine step (v := .d (.int .i64 (i39 + 1))) (st_inc (inc_ok hinv42 hgo41 hB40) rfl rfl) ?_
                refine step (v := .d (.int .i64 (i39 + 1))) rfl ?_
                exact RunOps.nil' (Norm.mk [] (by decide) (by decide) (by decide) ⟨.d _, .d _, .d _, .d _, .d _, trivial⟩ trivial)
              exact And.intro rfl rfl
          · rintro i39 ⟨⟩ hinv42 hgo41
            show NWp _ _ _ _ _ ⟨tab [(0, .d (eL (some 2) eapi_Row a0)), (1, .d (eL (some 8) (eA8 (D.int .u16)) a1)), (6, .d (eL (some 2) eapi_Row r12)), (88, .d (.int .i64 (r12.length : Int))), (89, .d (.int .i64 i39))], stab [], 0⟩
            have hc43 : ¬ (decide (i39 < (r12.length : Int)) = true) := fun hq => hgo41 (of_decide_eq_true hq)
            refine NWp.opsJ ⟨tab [(0, .d (eL (some 2) eapi_Row a0)), (1, .d (eL (some 8) (eA8 (D.int .u16)) a1)), (6, .d (eL (some 2) eapi_Row r12)), (88, .d (.int .i64 (r12.length : Int))), (89, .d (.int .i64 i39)), (90, .d (.bool (decide (i39 < (r12.length : Int)))))], stab [], 0⟩ ?_ ?_
            · refine step (v := .d (.bool (decide (i39 < (r12.length : Int))))) rfl ?_
              exact RunOps.nil' (Norm.mk [] (by decide) (by decide) (by decide) ⟨.d _, .d _, .d _, .d _, .d _, .d _, trivial⟩ trivial)
            refine NWp.seq ?_
            refine NWp.condF (t := decide (i39 < (r12.length : Int))) rfl hc43 ?_
            refine NWp.norm (s0 := ⟨tab [(0, .d (eL (some 2) eapi_Row a0)), (1, .d (eL (some 8) (eA8 (D.int .u16)) a1)), (6, .d (eL (some 2) eapi_Row r12))], stab [], 0⟩) (Norm.mk [] (by decide) (by decide) (by decide) ⟨.d _, .d _, .d _, trivial⟩ trivial) ?_
            refine NWp.exit ?_
            exact And.intro rfl rfl
          · intro r' hq
            subst hq
            exact Option.some.inj h
          rintro ⟨⟩ rfl
          refine NWp.seq ?_
          refine NWp.opsJ ⟨tab [(0, .d (eL (some 2) eapi_Row a0)), (6, .d (eL (some 2) eapi_Row r12)), (96, .d (eL (some 8) (eA8 (D.int .u16)) a1)), (97, .d (.int .i64 (a1.length : Int))), (98, .d (.int .i64 0))], stab [], 0⟩ ?_ ?_
          · refine step (v := .d (eL (some 8) (eA8 (D.int .u16)) a1)) rfl ?_
            refine step (v := .d (.int .i64 (a1.length : Int))) (st_len (xs := a1) (e := (eA8 (D.int .u16))) rfl) ?_
            refine step (v := .d (.int .i64 0)) rfl ?_
            exact RunOps.nil' (Norm.mk [] (by decide) (by decide) (by decide) ⟨.d _, .d _, .d _, .d _, .d _, trivial⟩ trivial)
          obtain ⟨q58, hl, h⟩ := bindE h
          refine NWp.block ?_
          refine loop_forR (cntU (a1.length : Int)) (fun (i47 : Int) (qq : Unit) => ⟨tab [(0, .d (eL (some 2) eapi_Row a0)), (6, .d (eL (some 2) eapi_Row r12)), (96, .d (eL (some 8) (eA8 (D.int .u16)) a1)), (97, .d (.int .i64 (a1.length : Int))), (98, .d (.int .i64 i47))], stab [], 0⟩) 4 (fun (qq : Unit) => ⟨tab [], stab [], 0⟩) Low low_step (r := r) hl (by unfold Low; omega) ?_ ?_ ?_ ?_
          · rintro i47 ⟨⟩ xr52 hinv50 hgo49 h
            show NWp _ _ _ _ _ ⟨tab [(0, .d (eL (some 2) eapi_Row a0)), (6, .d (eL (some 2) eapi_Row r12)), (96, .d (eL (some 8) (eA8 (D.int .u16)) a1)), (97, .d (.int .i64 (a1.length : Int))), (98, .d (.int .i64 i47))], stab [], 0⟩
            have hc51 : decide (i47 < (a1.length : Int)) = true := decide_eq_true hgo49
            refine NWp.opsJ ⟨tab [(0, .d (eL (some 2) eapi_Row a0)), (6, .d (eL (some 2) eapi_Row r12)), (96, .d (eL (some 8) (eA8 (D.int .u16)) a1)), (97, .d (.int .i64 (a1.length : Int))), (98, .d (.int .i64 i47)), (99, .d (.bool (decide (i47 < (a1.length : Int)))))], stab [], 0⟩ ?_ ?_
            · refine step (v := .d (.bool (decide (i47 < (a1.length : Int))))) rfl ?_
              exact RunOps.nil' (Norm.mk [] (by decide) (by decide) (by decide) ⟨.d _, .d _, .d _, .d _, .d _, .d _, trivial⟩ trivial)
            refine NWp.rng 97 rfl fun hB48 => ?_
            refine NWp.seq ?_
            refine NWp.condT (t := decide (i47 < (a1.length : Int))) rfl hc51 ?_
            refine NWp.skip ?_
            refine NWp.seq ?_
            refine NWp.block ?_
            obtain ⟨x53, hx53, h⟩ := bindE h
            refine NWp.opsJ ⟨tab [(0, .d (eL (some 2) eapi_Row a0)), (6, .d (eL (some 2) eapi_Row r12)), (12, .ptr 0 0 0), (96, .d (eL (some 8) (eA8 (D.int .u16)) a1)), (97, .d (.int .i64 (a1.length : Int))), (98, .d (.int .i64 i47))], stab [(0, .var [.d (.int .u16 x53.a0), .d (.int .u16 x53.a1), .d (.int .u16 x53.a2), .d (.int .u16 x53.a3), .d (.int .u16 x53.a4), .d (.int .u16 x53.a5), .d (.int .u16 x53.a6), .d (.int .u16 x53.a7)])], 1⟩ ?_ ?_
            · refine step (v := .d (.cptr (some 8) (eA8 (D.int .u16) x53) 0)) (st_iaddr (xs := a1) (e := (eA8 (D.int .u16))) hx53 rfl rfl) ?_
              refine step (v := .d (eA8 (D.int .u16) x53)) rfl ?_
              refine step (v := .ptr 0 0 0) (σ' := (upd (stab []) 0 (some (.var [.d (.int .u16 0), .d (.int .u16 0), .d (.int .u16 0), .d (.int .u16 0), .d (.int .u16 0), .d (.int .u16 0), .d (.int .u16 0), .d (.int .u16 0)])))) (n' := 1) rfl ?_
              refine step (v := V.undef) (σ' := (upd (upd (stab []) 0 (some (.var [.d (.int .u16 0), .d (.int .u16 0), .d (.int .u16 0), .d (.int .u16 0), .d (.int .u16 0), .d (.int .u16 0), .d (.int .u16 0), .d (.int .u16 0)]))) 0 (some (.var [.d (.int .u16 x53.a0), .d (.int .u16 x53.a1), .d (.int .u16 x53.a2), .d (.int .u16 x53.a3), .d (.int .u16 x53.a4), .d (.int .u16 x53.a5), .d (.int .u16 x53.a6), .d (.int .u16 x53.a7)])))) (n' := 1) rfl ?_
              exact RunOps.nil' (Norm.mk [0] (by decide) (by decide) (by decide) ⟨.d _, .d _, .ptr 0 _ _ (show 0 < 1 by decide), .d _, .d _, .d _, trivial⟩ ⟨⟨show 0 < 1 by decide, _, rfl, .vars ⟨.d _, .d _, .d _, .d _, .d _, .d _, .d _, .d _, trivial⟩⟩, trivial⟩)
            obtain ⟨r54, hr54, h⟩ := bindE h
            refine NWp.opsJ ⟨tab [(0, .d (eL (some 2) eapi_Row a0)), (6, .d (eL (some 2) eapi_Row r12)), (12, .ptr 0 0 0), (13, .d (eL (some 8) (eA8 (D.int .u16)) r54.1)), (96, .d (eL (some 8) (eA8 (D.int .u16)) a1)), (97, .d (.int .i64 (a1.length : Int))), (98, .d (.int .i64 i47))], stab [(0, .var [.d (.int .u16 x53.a0), .d (.int .u16 x53.a1), .d (.int .u16 x53.a2), .d (.int .u16 x53.a3), .d (.int .u16 x53.a4), .d (.int .u16 x53.a5), .d (.int .u16 x53.a6), .d (.int .u16 x53.a7)])], 1⟩ ?_ ?_
            · refine step (v := .d (eL (some 2) eapi_Row a0)) rfl ?_
              refine step (v := .d (eA8 (D.int .u16) x53)) (st_ldV (ds := [.int .u16 x53.a0, .int .u16 x53.a1, .int .u16 x53.a2, .int .u16 x53.a3, .int .u16 x53.a4, .int .u16 x53.a5, .int .u16 x53.a6, .int .u16 x53.a7]) rfl rfl (show 8 ≤ 8 by decide) rfl) ?_
              refine stepC (r := .tup [eL (some 8) (eA8 (D.int .u16)) r54.1, .int .i64 r54.2]) (ArgsOk.dt (ArgsOk.dt ArgsOk.nil')) (c_ref09_Lookup hr54) ?_
              refine step (v := .d (.tup [eL (some 8) (eA8 (D.int .u16)) r54.1, .int .i64 r54.2])) rfl ?_
              refine step (v := .d (eL (some 8) (eA8 (D.int .u16)) r54.1)) rfl ?_
              refine step (v := .d (.int .i64 r54.2)) rfl ?_
              refine step (v := .d (eL (some 8) (eA8 (D.int .u16)) r54.1)) rfl ?_
              refine step (v := .d (.int .i64 r54.2)) rfl ?_
              exact RunOps.nil' (Norm.mk [0] (by decide) (by decide) (by decide) ⟨.d _, .d _, .ptr 0 _ _ (show 0 < 1 by decide), .d _, .d _, .d _, .d _, trivial⟩ ⟨⟨show 0 < 1 by decide, _, rfl, .vars ⟨.d _, .d _, .d _, .d _, .d _, .d _, .d _, .d _, trivial⟩⟩, trivial⟩)
            obtain ⟨r55, hr55, h⟩ := bindE h
            refine NWp.opsJ ⟨tab [(0, .d (eL (some 2) eapi_Row a0)), (6, .d (eL (some 2) eapi_Row r12)), (13, .d (eL (some 8) (eA8 (D.int .u16)) r54.1)), (15, .d (eL (some 8) (eA8 (D.int .u16)) r55.1)), (96, .d (eL (some 8) (eA8 (D.int .u16)) a1)), (97, .d (.int .i64 (a1.length : Int))), (98, .d (.int .i64 i47))], stab [], 0⟩ ?_ ?_
            · refine step (v := .d (eL (some 2) eapi_Row r12)) rfl ?_
              refine step (v := .d (eA8 (D.int .u16) x53)) (st_ldV (ds := [.int .u16 x53.a0, .int .u16 x53.a1, .int .u16 x53.a2, .int .u16 x53.a3, .int .u16 x53.a4, .int .u16 x53.a5, .int .u16 x53.a6, .int .u16 x53.a7]) rfl rfl (show 8 ≤ 8 by decide) rfl) ?_
              refine stepC (r := .tup [eL (some 8) (eA8 (D.int .u16)) r55.1, .int .i64 r55.2]) (ArgsOk.dt (ArgsOk.dt ArgsOk.nil')) (c_ref09_Lookup hr55) ?_
              refine step (v := .d (.tup [eL (some 8) (eA8 (D.int .u16)) r55.1, .int .i64 r55.2])) rfl ?_
              refine step (v := .d (eL (some 8) (eA8 (D.int .u16)) r55.1)) rfl ?_
              refine step (v := .d (.int .i64 r55.2)) rfl ?_
              refine step (v := .d (eL (some 8) (eA8 (D.int .u16)) r55.1)) rfl ?_
              refine step (v := .d (.int .i64 r55.2)) rfl ?_
              exact RunOps.nil' (Norm.mk [] (by decide) (by decide) (by decide) ⟨.d _, .d _, .d _, .d _, .d _, .d _, .d _, trivial⟩ trivial)
            obtain ⟨r56, hr56, h⟩ := bindE h
            refine NWp.opsJ ⟨tab [(0, .d (eL (some 2) eapi_Row a0)), (6, .d (eL (some 2) eapi_Row r12)), (96, .d (eL (some 8) (eA8 (D.int .u16)) a1)), (97, .d (.int .i64 (a1.length : Int))), (98, .d (.int .i64 i47)), (117, .d (.bool (!r56)))], stab [], 0⟩ ?_ ?_
            · refine step (v := .d (eL (some 8) (eA8 (D.int .u16)) r54.1)) rfl ?_
              refine step (v := .d (eL (some 8) (eA8 (D.int .u16)) r55.1)) rfl ?_
              refine stepC (r := .bool r56) (ArgsOk.dt (ArgsOk.dt ArgsOk.nil')) (c_ref01_Same hr56) ?_
              refine step (v := .d (.bool (!r56))) rfl ?_
              exact RunOps.nil' (Norm.mk [] (by decide) (by decide) (by decide) ⟨.d _, .d _, .d _, .d _, .d _, .d _, trivial⟩ trivial)
            by_cases hc57 : (!r56) = true
            · replace h := iteT hc57 h
              refine NWp.condT (t := (!r56)) rfl hc57 ?_
              refine NWp.opsJ ⟨tab [(4, .d (.bool false))], stab [], 0⟩ ?_ ?_
              · refine step (v := .d (.bool false)) rfl ?_
                exact RunOps.nil' (Norm.mk [] (by decide) (by decide) (by decide) ⟨.d _, trivial⟩ trivial)
              obtain ⟨r58, kr58, hr⟩ := mapE (o := some false) (g := Br.ret) h
              subst hr
              have h := kr58
              have hh := Option.some.inj h
              subst hh
              refine NWp.ret ?_
              refine And.intro (fun hn => nomatch hn) ?_
              intro hq
              have hq := hq.symm
              subst hq
              show FQ _ _ _ _
              exact FQ.mk1 (.inr rfl) (res_t (v := .d (.bool false)) rfl rfl) (RV.d trivial)
            · replace h := iteF hc57 h
              refine NWp.condF (t := (!r56)) rfl hc57 ?_
              refine NWp.skip ?_
              have hh := Option.some.inj h
              subst hh
              refine NWp.opsE ⟨tab [(0, .d (eL (some 2) eapi_Row a0)), (6, .d (eL (some 2) eapi_Row r12)), (96, .d (eL (some 8) (eA8 (D.int .u16)) a1)), (97, .d (.int .i64 (a1.length : Int))), (98, .d (.int .i64 (i47 + 1)))], stab [], 0⟩ ?_ ?_
              · refine step (v := .d (.int .i64 (i47 + 1))) (st_inc (inc_ok hinv50 hgo49 hB48) rfl rfl) ?_
                refine step (v := .d (.int .i64 (i47 + 1))) rfl ?_
                exact RunOps.nil' (Norm.mk [] (by decide) (by decide) (by decide) ⟨.d _, .d _, .d _, .d _, .d _, trivial⟩ trivial)
              exact And.intro rfl rfl
          · rintro i47 ⟨⟩ hinv50 hgo49
            show NWp _ _ _ _ _ ⟨tab [(0, .d (eL (some 2) eapi_Row a0)), (6, .d (eL (some 2) eapi_Row r12)), (96, .d (eL (some 8) (eA8 (D.int .u16)) a1)), (97, .d (.int .i64 (a1.length : Int))), (98, .d (.int .i64 i47))], stab [], 0⟩
            have hc51 : ¬ (decide (i47 < (a1.length : Int)) = true) := fun hq => hgo49 (of_decide_eq_true hq)
            refine NWp.opsJ ⟨tab [(0, .d (eL (some 2) eapi_Row a0)), (6, .d (eL (some 2) eapi_Row r12)), (96, .d (eL (some 8) (eA8 (D.int .u16)) a1)), (97, .d (.int .i64 (a1.length : Int))), (98, .d (.int .i64 i47)), (99, .d (.bool (decide (i47 < (a1.length : Int)))))], stab [], 0⟩ ?_ ?_
            · refine step (v := .d (.bool (decide (i47 < (a1.length : Int))))) rfl ?_
              exact RunOps.nil' (Norm.mk [] (by decide) (by decide) (by decide) ⟨.d _, .d _, .d _, .d _, .d _, .d _, trivial⟩ trivial)
            refine NWp.seq ?_
            refine NWp.condF (t := decide (i47 < (a1.length : Int))) rfl hc51 ?_
            refine NWp.norm (s0 := ⟨tab [], stab [], 0⟩) (Norm.mk [] (by decide) (by decide) (by decide) trivial trivial) ?_
            refine NWp.exit ?_
            exact And.intro rfl rfl
          · intro r' hq
            subst hq
            exact Option.some.inj h
          rintro ⟨⟩ rfl
          refine NWp.opsJ ⟨tab [(4, .d (.bool true))], stab [], 0⟩ ?_ ?_
          · refine step (v := .d (.bool true)) rfl ?_
            exact RunOps.nil' (Norm.mk [] (by decide) (by decide) (by decide) ⟨.d _, trivial⟩ trivial)
          have hh := Option.some.inj h
          subst hh
          refine NWp.ret ?_
          show FQ _ _ _ _
          exact FQ.mk1 (.inr rfl) (res_t (v := .d (.bool true)) rfl rfl) (RV.d trivial)


end Go.AM
