import Derived.Test.YtkgegocfjalcbaaSvE
/-  What they are in the program: walks. -/
set_option linter.unusedVariables false
set_option linter.unusedSimpArgs false
namespace Go.AM
open Go Go.RowKit Go.Proofs

attribute [local irreducible] RunOps RunOpsL

theorem c_save_may {a0 : api_Deed} {r : Bool} (h : save_may a0 = some r) : PCall Try.prog 59 [eapi_Deed a0] (.bool r) := by
  refine PCall.introN ok59 (show 1 ≤ 27 by decide) ?_
  refine NWp.norm (s0 := ⟨tab [(0, .d (eapi_Deed a0))], stab [], 0⟩) (Norm.mk [] (by decide) (by decide) (by decide) ⟨.d _, trivial⟩ trivial) ?_
  refine NWp.opsJ ⟨tab [(1, .d (.cptr (some 12) (eapi_Deed a0) 0))], stab [], 0⟩ ?_ ?_
  · refine step (v := .d (.cptr (some 12) (eapi_Deed a0) 0)) rfl ?_
    refine step (v := .d (.bool false)) rfl ?_
    exact RunOps.nil' (Norm.mk [] (by decide) (by decide) (by decide) ⟨.d _, trivial⟩ trivial)
  refine NWp.opsJ ⟨tab [(2, .d (.bool ((decide (a0.What ≥ 0)) && ((decide (a0.What ≤ 6)) && ((decide (a0.N ≥ 0)) && ((decide (a0.N ≤ 99999)) && (decide ((a0.Raw.size : Int) ≤ 1000))))))))], stab [], 0⟩ ?_ ?_
  · refine step (v := .d (.cptr (some 12) (eapi_Deed a0) 0)) rfl ?_
    refine step (v := .d (.int .i64 a0.What)) rfl ?_
    refine step (v := .d (.bool (decide (a0.What ≥ 0)))) rfl ?_
    refine step (v := .d (.bool (decide (a0.What ≥ 0)))) rfl ?_
    by_cases hg1 : decide (a0.What ≥ 0) = true
    · refine stepG (c := decide (a0.What ≥ 0)) rfl hg1 ?_
      refine step (v := .d (.cptr (some 12) (eapi_Deed a0) 0)) rfl ?_
      refine stepG (c := decide (a0.What ≥ 0)) rfl hg1 ?_
      refine step (v := .d (.int .i64 a0.What)) rfl ?_
      refine stepG (c := decide (a0.What ≥ 0)) rfl hg1 ?_
      refine step (v := .d (.bool (decide (a0.What ≤ 6)))) rfl ?_
      refine step (v := .d (.bool (decide (a0.What ≤ 6)))) (st_pickT (b := decide (a0.What ≥ 0)) rfl hg1 rfl) ?_
      refine step (v := .d (.bool (decide (a0.What ≤ 6)))) rfl ?_
      by_cases hg2 : decide (a0.What ≤ 6) = true
      · refine stepG (c := decide (a0.What ≤ 6)) rfl hg2 ?_
        refine step (v := .d (.cptr (some 12) (eapi_Deed a0) 1)) rfl ?_
        refine stepG (c := decide (a0.What ≤ 6)) rfl hg2 ?_
        refine step (v := .d (.int .i64 a0.N)) rfl ?_
        refine stepG (c := decide (a0.What ≤ 6)) rfl hg2 ?_
        refine step (v := .d (.bool (decide (a0.N ≥ 0)))) rfl ?_
        refine step (v := .d (.bool (decide (a0.N ≥ 0)))) (st_pickT (b := decide (a0.What ≤ 6)) rfl hg2 rfl) ?_
        refine step (v := .d (.bool (decide (a0.N ≥ 0)))) rfl ?_
        by_cases hg3 : decide (a0.N ≥ 0) = true
        · refine stepG (c := decide (a0.N ≥ 0)) rfl hg3 ?_
          refine step (v := .d (.cptr (some 12) (eapi_Deed a0) 1)) rfl ?_
          refine stepG (c := decide (a0.N ≥ 0)) rfl hg3 ?_
          refine step (v := .d (.int .i64 a0.N)) rfl ?_
          refine stepG (c := decide (a0.N ≥ 0)) rfl hg3 ?_
          refine step (v := .d (.bool (decide (a0.N ≤ 99999)))) rfl ?_
          refine step (v := .d (.bool (decide (a0.N ≤ 99999)))) (st_pickT (b := decide (a0.N ≥ 0)) rfl hg3 rfl) ?_
          refine step (v := .d (.bool (decide (a0.N ≤ 99999)))) rfl ?_
          by_cases hg4 : decide (a0.N ≤ 99999) = true
          · refine stepG (c := decide (a0.N ≤ 99999)) rfl hg4 ?_
            refine step (v := .d (.cptr (some 12) (eapi_Deed a0) 11)) rfl ?_
            refine stepG (c := decide (a0.N ≤ 99999)) rfl hg4 ?_
            refine step (v := .d (.str a0.Raw)) rfl ?_
            refine stepG (c := decide (a0.N ≤ 99999)) rfl hg4 ?_
            refine step (v := .d (.int .i64 (a0.Raw.size : Int))) rfl ?_
            refine stepG (c := decide (a0.N ≤ 99999)) rfl hg4 ?_
            refine step (v := .d (.bool (decide ((a0.Raw.size : Int) ≤ 1000)))) rfl ?_
            refine step (v := .d (.bool (decide ((a0.Raw.size : Int) ≤ 1000)))) (st_pickT (b := decide (a0.N ≤ 99999)) rfl hg4 rfl) ?_
            refine step (v := .d (.bool (decide ((a0.Raw.size : Int) ≤ 1000)))) rfl ?_
            exact RunOps.nil' (Norm.mk [] (by decide) (by decide) (by decide) ⟨.eq (by simp [hg1, hg2, hg3, hg4]), trivial⟩ trivial)
          · refine stepX (c := decide (a0.N ≤ 99999)) rfl hg4 ?_
            refine stepX (c := decide (a0.N ≤ 99999)) rfl hg4 ?_
            refine stepX (c := decide (a0.N ≤ 99999)) rfl hg4 ?_
            refine stepX (c := decide (a0.N ≤ 99999)) rfl hg4 ?_
            refine step (v := .d (.bool false)) (st_pickF (b := decide (a0.N ≤ 99999)) rfl hg4 rfl) ?_
            refine step (v := .d (.bool false)) rfl ?_
            exact RunOps.nil' (Norm.mk [] (by decide) (by decide) (by decide) ⟨.eq (by simp [hg1, hg2, hg3, hg4]), trivial⟩ trivial)
        · refine stepX (c := decide (a0.N ≥ 0)) rfl hg3 ?_
          refine stepX (c := decide (a0.N ≥ 0)) rfl hg3 ?_
          refine stepX (c := decide (a0.N ≥ 0)) rfl hg3 ?_
          refine step (v := .d (.bool false)) (st_pickF (b := decide (a0.N ≥ 0)) rfl hg3 rfl) ?_
          refine step (v := .d (.bool false)) rfl ?_
          refine stepX (c := false) rfl (by decide) ?_
          refine stepX (c := false) rfl (by decide) ?_
          refine stepX (c := false) rfl (by decide) ?_
          refine stepX (c := false) rfl (by decide) ?_
          refine step (v := .d (.bool false)) (st_pickF (b := false) rfl (by decide) rfl) ?_
          refine step (v := .d (.bool false)) rfl ?_
          exact RunOps.nil' (Norm.mk [] (by decide) (by decide) (by decide) ⟨.eq (by simp [hg1, hg2, hg3]), trivial⟩ trivial)
      · refine stepX (c := decide (a0.What ≤ 6)) rfl hg2 ?_
        refine stepX (c := decide (a0.What ≤ 6)) rfl hg2 ?_
        refine stepX (c := decide (a0.What ≤ 6)) rfl hg2 ?_
        refine step (v := .d (.bool false)) (st_pickF (b := decide (a0.What ≤ 6)) rfl hg2 rfl) ?_
        refine step (v := .d (.bool false)) rfl ?_
        refine stepX (c := false) rfl (by decide) ?_
        refine stepX (c := false) rfl (by decide) ?_
        refine stepX (c := false) rfl (by decide) ?_
        refine step (v := .d (.bool false)) (st_pickF (b := false) rfl (by decide) rfl) ?_
        refine step (v := .d (.bool false)) rfl ?_
        refine stepX (c := false) rfl (by decide) ?_
        refine stepX (c := false) rfl (by decide) ?_
        refine stepX (c := false) rfl (by decide) ?_
        refine stepX (c := false) rfl (by decide) ?_
        refine step (v := .d (.bool false)) (st_pickF (b := false) rfl (by decide) rfl) ?_
        refine step (v := .d (.bool false)) rfl ?_
        exact RunOps.nil' (Norm.mk [] (by decide) (by decide) (by decide) ⟨.eq (by simp [hg1, hg2]), trivial⟩ trivial)
    · refine stepX (c := decide (a0.What ≥ 0)) rfl hg1 ?_
      refine stepX (c := decide (a0.What ≥ 0)) rfl hg1 ?_
      refine stepX (c := decide (a0.What ≥ 0)) rfl hg1 ?_
      refine step (v := .d (.bool false)) (st_pickF (b := decide (a0.What ≥ 0)) rfl hg1 rfl) ?_
      refine step (v := .d (.bool false)) rfl ?_
      refine stepX (c := false) rfl (by decide) ?_
      refine stepX (c := false) rfl (by decide) ?_
      refine stepX (c := false) rfl (by decide) ?_
      refine step (v := .d (.bool false)) (st_pickF (b := false) rfl (by decide) rfl) ?_
      refine step (v := .d (.bool false)) rfl ?_
      refine stepX (c := false) rfl (by decide) ?_
      refine stepX (c := false) rfl (by decide) ?_
      refine stepX (c := false) rfl (by decide) ?_
      refine step (v := .d (.bool false)) (st_pickF (b := false) rfl (by decide) rfl) ?_
      refine step (v := .d (.bool false)) rfl ?_
      refine stepX (c := false) rfl (by decide) ?_
      refine stepX (c := false) rfl (by decide) ?_
      refine stepX (c := false) rfl (by decide) ?_
      refine stepX (c := false) rfl (by decide) ?_
      refine step (v := .d (.bool false)) (st_pickF (b := false) rfl (by decide) rfl) ?_
      refine step (v := .d (.bool false)) rfl ?_
      exact RunOps.nil' (Norm.mk [] (by decide) (by decide) (by decide) ⟨.eq (by simp [hg1]), trivial⟩ trivial)
  have hh := Option.some.inj h
  subst hh
  refine NWp.ret ?_
  show FQ _ _ _ _
  exact FQ.mk1 (.inr rfl) (res_t (v := .d (.bool ((decide (a0.What ≥ 0)) && ((decide (a0.What ≤ 6)) && ((decide (a0.N ≥ 0)) && ((decide (a0.N ≤ 99999)) && (decide ((a0.Raw.size : Int) ≤ 1000)))))))) rfl rfl) (RV.d trivial)

theorem c_save_number {m0 : Bool} {a0 : (List Int)} {a1 : Int} {r : (List Int)} (h : save_number a0 a1 = some r) : SCall Try.prog 60 [.loc 0 0 a0.length, .d (.int .i64 a1)] (stab [(0, .lst m0 none (List.map (D.int .u8) a0))]) 1 (.loc 1 0 r.length) (stab [(1, .lst m0 none (List.map (D.int .u8) r))]) 2 := by
  refine SCall.introN (bl := [(0, .lst m0 none (List.map (D.int .u8) a0))]) (bl' := [(1, .lst m0 none (List.map (D.int .u8) r))]) ok60 (show 2 ≤ 20 by decide) rfl ?_
  refine NWp.norm (s0 := ⟨tab [(0, .loc 0 0 a0.length), (1, .d (.int .i64 a1))], stab [(0, .lst m0 none (List.map (D.int .u8) a0))], 1⟩) (Norm.mk [0] (by decide) (by decide) (by decide) ⟨.loc 0 _ _ (show 0 < 1 by decide), .d _, trivial⟩ ⟨⟨show 0 < 1 by decide, _, rfl, .lst _ _ _⟩, trivial⟩) ?_
  refine NWp.opsJ ⟨tab [(0, .loc 0 0 a0.length), (1, .d (.int .i64 a1))], stab [(0, .lst m0 none (List.map (D.int .u8) a0))], 1⟩ ?_ ?_
  · refine step (v := .d (eL none (D.int .u8) ([] : List Int))) rfl ?_
    exact RunOps.nil' (Norm.mk [0] (by decide) (by decide) (by decide) ⟨.loc 0 _ _ (show 0 < 1 by decide), .d _, trivial⟩ ⟨⟨show 0 < 1 by decide, _, rfl, .lst _ _ _⟩, trivial⟩)
  refine NWp.seq ?_
  obtain ⟨q9, hl, h⟩ := bindE h
  obtain ⟨z6, z7⟩ := q9
  refine NWp.norm (s0 := ⟨tab [(0, .loc 1 0 a0.length), (1, .d (.int .i64 a1))], stab [(1, .lst m0 none (List.map (D.int .u8) a0))], 2⟩) (Norm.mkR [0, 0] [1] (by decide) rfl (by decide) (by decide) ⟨.loc 1 _ _ (show 1 < 2 by decide), .d _, trivial⟩ ⟨⟨show 1 < 2 by decide, _, rfl, .lst _ _ _⟩, trivial⟩) ?_
  refine NWp.block ?_
  refine loop_whK (fun (qq : ((List Int) × Int)) => ⟨tab [(0, .loc 1 0 qq.1.length), (1, .d (.int .i64 qq.2))], stab [(1, .lst m0 none (List.map (D.int .u8) qq.1))], 2⟩) 0 (fun (qq : ((List Int) × Int)) => ⟨tab [(0, .loc 1 0 qq.1.length), (1, .d (.int .i64 qq.2))], stab [(1, .lst m0 none (List.map (D.int .u8) qq.1))], 2⟩) hl ?_ ?_
  · rintro ⟨l1, i2⟩ xr3 h
    show NWp _ _ _ _ _ ⟨tab [(0, .loc 1 0 l1.length), (1, .d (.int .i64 i2))], stab [(1, .lst m0 none (List.map (D.int .u8) l1))], 2⟩
    refine NWp.seq ?_
    refine NWp.opsJ ⟨tab [(0, .loc 1 0 l1.length), (1, .d (.int .i64 i2)), (6, .d (.bool (decide (i2 ≥ 128))))], stab [(1, .lst m0 none (List.map (D.int .u8) l1))], 2⟩ ?_ ?_
    · refine step (v := .d (.int .i64 i2)) rfl ?_
      refine step (v := .d (.bool (decide (i2 ≥ 128)))) rfl ?_
      exact RunOps.nil' (Norm.mk [0, 1] (by decide) (by decide) (by decide) ⟨.loc 1 _ _ (show 1 < 2 by decide), .d _, .d _, trivial⟩ ⟨⟨show 1 < 2 by decide, _, rfl, .lst _ _ _⟩, trivial⟩)
    by_cases hc4 : decide (i2 ≥ 128) = true
    · replace h := iteT hc4 h
      refine NWp.condT (t := decide (i2 ≥ 128)) rfl hc4 ?_
      refine NWp.skip ?_
      refine NWp.seq ?_
      refine NWp.block ?_
      obtain ⟨l5, hl5, h⟩ := bindE h
      refine NWp.opsE ⟨tab [(0, .loc 1 0 l5.length), (1, .d (.int .i64 i2))], stab [(1, .lst m0 none (List.map (D.int .u8) l5))], 2⟩ ?_ ?_
      · refine step (v := .loc 1 0 l1.length) rfl ?_
        refine step (v := .d (.int .i64 i2)) rfl ?_
        refine step (v := .d (.int .u8 (IntKind.u8.wrap i2))) rfl ?_
        refine step (v := .d (.int .u8 (orI .u8 (IntKind.u8.wrap i2) 128))) rfl ?_
        refine step (v := .d (eL none (D.int .u8) ([orI .u8 (IntKind.u8.wrap i2) 128] : List Int))) rfl ?_
        refine step (v := .loc 2 0 l5.length) (σ' := (upd (upd (stab [(1, .lst m0 none (List.map (D.int .u8) l1))]) 1 none) 2 (some (.lst m0 none (List.map (D.int .u8) l5))))) (n' := 3) (st_app (xs := l1) (ys := ([orI .u8 (IntKind.u8.wrap i2) 128] : List Int)) (e := (D.int .u8)) hl5 rfl rfl rfl (src_v (xs := ([orI .u8 (IntKind.u8.wrap i2) 128] : List Int)) (e := (D.int .u8)) rfl)) ?_
        refine step (v := .loc 2 0 l5.length) rfl ?_
        exact RunOps.nil' (Norm.mk [0, 2] (by decide) (by decide) (by decide) ⟨.loc 1 _ _ (show 1 < 2 by decide), .d _, trivial⟩ ⟨⟨show 1 < 2 by decide, _, rfl, .lst _ _ _⟩, trivial⟩)
      have hh := Option.some.inj h
      subst hh
      refine NWp.opsE ⟨tab [(0, .loc 1 0 l5.length), (1, .d (.int .i64 (i2.fdiv (2 ^ 7))))], stab [(1, .lst m0 none (List.map (D.int .u8) l5))], 2⟩ ?_ ?_
      · refine step (v := .d (.int .i64 i2)) rfl ?_
        refine step (v := .d (.int .i64 (i2.fdiv (2 ^ 7)))) rfl ?_
        refine step (v := .d (.int .i64 (i2.fdiv (2 ^ 7)))) rfl ?_
        exact RunOps.nil' (Norm.mk [0, 1] (by decide) (by decide) (by decide) ⟨.loc 1 _ _ (show 1 < 2 by decide), .d _, trivial⟩ ⟨⟨show 1 < 2 by decide, _, rfl, .lst _ _ _⟩, trivial⟩)
      exact And.intro rfl rfl
    · replace h := iteF hc4 h
      refine NWp.condF (t := decide (i2 ≥ 128)) rfl hc4 ?_
      have hh := Option.some.inj h
      subst hh
      refine NWp.norm (s0 := ⟨tab [(0, .loc 1 0 l1.length), (1, .d (.int .i64 i2))], stab [(1, .lst m0 none (List.map (D.int .u8) l1))], 2⟩) (Norm.mk [0, 1] (by decide) (by decide) (by decide) ⟨.loc 1 _ _ (show 1 < 2 by decide), .d _, trivial⟩ ⟨⟨show 1 < 2 by decide, _, rfl, .lst _ _ _⟩, trivial⟩) ?_
      refine NWp.exit ?_
      exact And.intro rfl rfl
  obtain ⟨l8, hl8, h⟩ := bindE h
  refine NWp.opsJ ⟨tab [(4, .loc 1 0 l8.length)], stab [(1, .lst m0 none (List.map (D.int .u8) l8))], 2⟩ ?_ ?_
  · refine step (v := .loc 1 0 z6.length) rfl ?_
    refine step (v := .d (.int .i64 z7)) rfl ?_
    refine step (v := .d (.int .u8 (IntKind.u8.wrap z7))) rfl ?_
    refine step (v := .d (eL none (D.int .u8) ([IntKind.u8.wrap z7] : List Int))) rfl ?_
    refine step (v := .loc 2 0 l8.length) (σ' := (upd (upd (stab [(1, .lst m0 none (List.map (D.int .u8) z6))]) 1 none) 2 (some (.lst m0 none (List.map (D.int .u8) l8))))) (n' := 3) (st_app (xs := z6) (ys := ([IntKind.u8.wrap z7] : List Int)) (e := (D.int .u8)) hl8 rfl rfl rfl (src_v (xs := ([IntKind.u8.wrap z7] : List Int)) (e := (D.int .u8)) rfl)) ?_
    refine step (v := .loc 2 0 l8.length) rfl ?_
    exact RunOps.nil' (Norm.mk [0, 2] (by decide) (by decide) (by decide) ⟨.loc 1 _ _ (show 1 < 2 by decide), trivial⟩ ⟨⟨show 1 < 2 by decide, _, rfl, .lst _ _ _⟩, trivial⟩)
  have hh := Option.some.inj h
  subst hh
  refine NWp.ret ?_
  exact ⟨.inr rfl, _, rfl, rfl, AllS.sub ⟨rfl, trivial⟩, rfl⟩

theorem c_save_of {a0 : Int} {r : save_tells} (h : save_of a0 = some r) : PCall Try.prog 57 [.int .i64 a0] (esave_tells r) := by
  refine PCall.introN ok57 (show 1 ≤ 15 by decide) ?_
  refine NWp.norm (s0 := ⟨tab [(0, .d (.int .i64 a0))], stab [], 0⟩) (Norm.mk [] (by decide) (by decide) (by decide) ⟨.d _, trivial⟩ trivial) ?_
  refine NWp.opsJ ⟨tab [(0, .d (.int .i64 a0)), (2, .ptr 0 0 0)], stab [(0, .var [.d (.bool false), .d (.bool false), .d (.bool false)])], 1⟩ ?_ ?_
  · refine step (v := .ptr 0 0 0) (σ' := (upd (stab []) 0 (some (.var [.d (.bool false), .d (.bool false), .d (.bool false)])))) (n' := 1) rfl ?_
    exact RunOps.nil' (Norm.mk [0] (by decide) (by decide) (by decide) ⟨.d _, .ptr 0 _ _ (show 0 < 1 by decide), trivial⟩ ⟨⟨show 0 < 1 by decide, _, rfl, .vars ⟨.d _, .d _, .d _, trivial⟩⟩, trivial⟩)
  refine NWp.seq ?_
  refine NWp.opsJ ⟨tab [(2, .ptr 0 0 0), (3, .d (.int .i64 a0))], stab [(0, .var [.d (.bool false), .d (.bool false), .d (.bool false)])], 1⟩ ?_ ?_
  · refine step (v := .d (.int .i64 a0)) rfl ?_
    exact RunOps.nil' (Norm.mk [0] (by decide) (by decide) (by decide) ⟨.ptr 0 _ _ (show 0 < 1 by decide), .d _, trivial⟩ ⟨⟨show 0 < 1 by decide, _, rfl, .vars ⟨.d _, .d _, .d _, trivial⟩⟩, trivial⟩)
  refine NWp.block ?_
  refine NWp.opsJ ⟨tab [(2, .ptr 0 0 0), (3, .d (.int .i64 a0)), (4, .d (.bool (a0 == 0)))], stab [(0, .var [.d (.bool false), .d (.bool false), .d (.bool false)])], 1⟩ ?_ ?_
  · refine step (v := .d (.bool (a0 == 0))) rfl ?_
    refine step (v := .d (.bool (a0 == 0))) rfl ?_
    exact RunOps.nil' (Norm.mk [0] (by decide) (by decide) (by decide) ⟨.ptr 0 _ _ (show 0 < 1 by decide), .d _, .d _, trivial⟩ ⟨⟨show 0 < 1 by decide, _, rfl, .vars ⟨.d _, .d _, .d _, trivial⟩⟩, trivial⟩)
  by_cases hc1 : (a0 == 0) = true
  · replace h := iteT hc1 h
    refine NWp.condT (t := (a0 == 0)) rfl hc1 ?_
    refine NWp.opsJ ⟨tab [(2, .ptr 0 0 0)], stab [(0, .var [.d (.bool true), .d (.bool false), .d (.bool false)])], 1⟩ ?_ ?_
    · refine step (v := .d (esave_tells (save_tells.mk true false false))) (st_build (ds := [.bool true, .bool false, .bool false]) rfl) ?_
      refine step (v := V.undef) (σ' := (upd (stab [(0, .var [.d (.bool false), .d (.bool false), .d (.bool false)])]) 0 (some (.var [.d (.bool true), .d (.bool false), .d (.bool false)])))) (n' := 1) rfl ?_
      exact RunOps.nil' (Norm.mk [0] (by decide) (by decide) (by decide) ⟨.ptr 0 _ _ (show 0 < 1 by decide), trivial⟩ ⟨⟨show 0 < 1 by decide, _, rfl, .vars ⟨.d _, .d _, .d _, trivial⟩⟩, trivial⟩)
    have hh := Option.some.inj h
    subst hh
    refine NWp.ret ?_
    show FQ _ _ _ _
    exact FQ.mk1 (.inr rfl) (res_cell (ds := [.bool true, .bool false, .bool false]) rfl rfl (show 3 ≤ 3 by decide) rfl rfl) (RV.d trivial)
  · replace h := iteF hc1 h
    refine NWp.condF (t := (a0 == 0)) rfl hc1 ?_
    refine NWp.opsJ ⟨tab [(2, .ptr 0 0 0), (3, .d (.int .i64 a0)), (7, .d (.bool (a0 == 1)))], stab [(0, .var [.d (.bool false), .d (.bool false), .d (.bool false)])], 1⟩ ?_ ?_
    · refine step (v := .d (.bool (a0 == 1))) rfl ?_
      refine step (v := .d (.bool (a0 == 1))) rfl ?_
      exact RunOps.nil' (Norm.mk [0] (by decide) (by decide) (by decide) ⟨.ptr 0 _ _ (show 0 < 1 by decide), .d _, .d _, trivial⟩ ⟨⟨show 0 < 1 by decide, _, rfl, .vars ⟨.d _, .d _, .d _, trivial⟩⟩, trivial⟩)
    by_cases hc2 : (a0 == 1) = true
    · replace h := iteT hc2 h
      refine NWp.condT (t := (a0 == 1)) rfl hc2 ?_
      refine NWp.opsJ ⟨tab [(2, .ptr 0 0 0)], stab [(0, .var [.d (.bool false), .d (.bool true), .d (.bool false)])], 1⟩ ?_ ?_
      · refine step (v := .d (esave_tells (save_tells.mk false true false))) (st_build (ds := [.bool false, .bool true, .bool false]) rfl) ?_
        refine step (v := V.undef) (σ' := (upd (stab [(0, .var [.d (.bool false), .d (.bool false), .d (.bool false)])]) 0 (some (.var [.d (.bool false), .d (.bool true), .d (.bool false)])))) (n' := 1) rfl ?_
        exact RunOps.nil' (Norm.mk [0] (by decide) (by decide) (by decide) ⟨.ptr 0 _ _ (show 0 < 1 by decide), trivial⟩ ⟨⟨show 0 < 1 by decide, _, rfl, .vars ⟨.d _, .d _, .d _, trivial⟩⟩, trivial⟩)
      have hh := Option.some.inj h
      subst hh
      refine NWp.ret ?_
      show FQ _ _ _ _
      exact FQ.mk1 (.inr rfl) (res_cell (ds := [.bool false, .bool true, .bool false]) rfl rfl (show 3 ≤ 3 by decide) rfl rfl) (RV.d trivial)
    · replace h := iteF hc2 h
      refine NWp.condF (t := (a0 == 1)) rfl hc2 ?_
      obtain ⟨y4, hv, h⟩ := bindE h
      refine NWp.seqN ⟨tab [(2, .ptr 0 0 0), (10, .d (.bool y4))], stab [(0, .var [.d (.bool false), .d (.bool false), .d (.bool false)])], 1⟩ ?_ ?_
      · replace h := hv
        refine NWp.opsJ ⟨tab [(2, .ptr 0 0 0), (3, .d (.int .i64 a0)), (10, .d (.bool (a0 == 3)))], stab [(0, .var [.d (.bool false), .d (.bool false), .d (.bool false)])], 1⟩ ?_ ?_
        · refine step (v := .d (.bool (a0 == 3))) rfl ?_
          refine step (v := .d (.bool (a0 == 3))) rfl ?_
          exact RunOps.nil' (Norm.mk [0] (by decide) (by decide) (by decide) ⟨.ptr 0 _ _ (show 0 < 1 by decide), .d _, .d _, trivial⟩ ⟨⟨show 0 < 1 by decide, _, rfl, .vars ⟨.d _, .d _, .d _, trivial⟩⟩, trivial⟩)
        by_cases hc3 : (a0 == 3) = true
        · replace h := iteT hc3 h
          refine NWp.condT (t := (a0 == 3)) rfl hc3 ?_
          have hh := Option.some.inj h
          subst hh
          refine NWp.norm (s0 := ⟨tab [(2, .ptr 0 0 0), (10, .d (.bool (a0 == 3)))], stab [(0, .var [.d (.bool false), .d (.bool false), .d (.bool false)])], 1⟩) (Norm.mk [0] (by decide) (by decide) (by decide) ⟨.ptr 0 _ _ (show 0 < 1 by decide), .d _, trivial⟩ ⟨⟨show 0 < 1 by decide, _, rfl, .vars ⟨.d _, .d _, .d _, trivial⟩⟩, trivial⟩) ?_
          refine NWp.skip ?_
          exact And.intro rfl rfl
        · replace h := iteF hc3 h
          refine NWp.condF (t := (a0 == 3)) rfl hc3 ?_
          have hh := Option.some.inj h
          subst hh
          refine NWp.opsE ⟨tab [(2, .ptr 0 0 0), (10, .d (.bool (a0 == 4)))], stab [(0, .var [.d (.bool false), .d (.bool false), .d (.bool false)])], 1⟩ ?_ ?_
          · refine step (v := .d (.bool (a0 == 4))) rfl ?_
            refine step (v := .d (.bool (a0 == 4))) rfl ?_
            exact RunOps.nil' (Norm.mk [0] (by decide) (by decide) (by decide) ⟨.ptr 0 _ _ (show 0 < 1 by decide), .d _, trivial⟩ ⟨⟨show 0 < 1 by decide, _, rfl, .vars ⟨.d _, .d _, .d _, trivial⟩⟩, trivial⟩)
          exact And.intro rfl rfl
      by_cases hc6 : y4 = true
      · replace h := iteT hc6 h
        refine NWp.condT (t := y4) rfl hc6 ?_
        refine NWp.opsJ ⟨tab [(2, .ptr 0 0 0)], stab [(0, .var [.d (.bool false), .d (.bool false), .d (.bool true)])], 1⟩ ?_ ?_
        · refine step (v := .d (esave_tells (save_tells.mk false false true))) (st_build (ds := [.bool false, .bool false, .bool true]) rfl) ?_
          refine step (v := V.undef) (σ' := (upd (stab [(0, .var [.d (.bool false), .d (.bool false), .d (.bool false)])]) 0 (some (.var [.d (.bool false), .d (.bool false), .d (.bool true)])))) (n' := 1) rfl ?_
          exact RunOps.nil' (Norm.mk [0] (by decide) (by decide) (by decide) ⟨.ptr 0 _ _ (show 0 < 1 by decide), trivial⟩ ⟨⟨show 0 < 1 by decide, _, rfl, .vars ⟨.d _, .d _, .d _, trivial⟩⟩, trivial⟩)
        have hh := Option.some.inj h
        subst hh
        refine NWp.ret ?_
        show FQ _ _ _ _
        exact FQ.mk1 (.inr rfl) (res_cell (ds := [.bool false, .bool false, .bool true]) rfl rfl (show 3 ≤ 3 by decide) rfl rfl) (RV.d trivial)
      · replace h := iteF hc6 h
        refine NWp.condF (t := y4) rfl hc6 ?_
        refine NWp.skip ?_
        refine NWp.opsJ ⟨tab [(2, .ptr 0 0 0)], stab [(0, .var [.d (.bool false), .d (.bool false), .d (.bool false)])], 1⟩ ?_ ?_
        · refine step (v := .d (esave_tells (save_tells.mk false false false))) (st_build (ds := [.bool false, .bool false, .bool false]) rfl) ?_
          refine step (v := V.undef) (σ' := (upd (stab [(0, .var [.d (.bool false), .d (.bool false), .d (.bool false)])]) 0 (some (.var [.d (.bool false), .d (.bool false), .d (.bool false)])))) (n' := 1) rfl ?_
          exact RunOps.nil' (Norm.mk [0] (by decide) (by decide) (by decide) ⟨.ptr 0 _ _ (show 0 < 1 by decide), trivial⟩ ⟨⟨show 0 < 1 by decide, _, rfl, .vars ⟨.d _, .d _, .d _, trivial⟩⟩, trivial⟩)
        have hh := Option.some.inj h
        subst hh
        refine NWp.ret ?_
        show FQ _ _ _ _
        exact FQ.mk1 (.inr rfl) (res_cell (ds := [.bool false, .bool false, .bool false]) rfl rfl (show 3 ≤ 3 by decide) rfl rfl) (RV.d trivial)

theorem c_save_deed {m0 : Bool} {a0 : (List Int)} {a1 : api_Deed} {r : (List Int)} (h : save_deed a0 a1 = some r) : SCall Try.prog 61 [.loc 0 0 a0.length, .d (eapi_Deed a1)] (stab [(0, .lst m0 none (List.map (D.int .u8) a0))]) 1 (.loc 1 0 r.length) (stab [(1, .lst m0 none (List.map (D.int .u8) r))]) 2 := by
  refine SCall.introN (bl := [(0, .lst m0 none (List.map (D.int .u8) a0))]) (bl' := [(1, .lst m0 none (List.map (D.int .u8) r))]) ok61 (show 2 ≤ 61 by decide) rfl ?_
  refine NWp.norm (s0 := ⟨tab [(0, .loc 0 0 a0.length), (1, .d (eapi_Deed a1))], stab [(0, .lst m0 none (List.map (D.int .u8) a0))], 1⟩) (Norm.mk [0] (by decide) (by decide) (by decide) ⟨.loc 0 _ _ (show 0 < 1 by decide), .d _, trivial⟩ ⟨⟨show 0 < 1 by decide, _, rfl, .lst _ _ _⟩, trivial⟩) ?_
  refine NWp.opsJ ⟨tab [(0, .loc 0 0 a0.length), (3, .d (.cptr (some 12) (eapi_Deed a1) 0))], stab [(0, .lst m0 none (List.map (D.int .u8) a0))], 1⟩ ?_ ?_
  · refine step (v := .d (.cptr (some 12) (eapi_Deed a1) 0)) rfl ?_
    refine step (v := .d (eL none (D.int .u8) ([] : List Int))) rfl ?_
    exact RunOps.nil' (Norm.mk [0] (by decide) (by decide) (by decide) ⟨.loc 0 _ _ (show 0 < 1 by decide), .d _, trivial⟩ ⟨⟨show 0 < 1 by decide, _, rfl, .lst _ _ _⟩, trivial⟩)
  obtain ⟨r1, hr1, h⟩ := bindE h
  obtain ⟨r2, hr2, h⟩ := bindE h
  refine NWp.opsJ ⟨tab [(0, .loc 1 0 r2.length), (3, .d (.cptr (some 12) (eapi_Deed a1) 0))], stab [(1, .lst m0 none (List.map (D.int .u8) r2))], 2⟩ ?_ ?_
  · refine step (v := .loc 0 0 a0.length) rfl ?_
    refine step (v := .d (.cptr (some 12) (eapi_Deed a1) 0)) rfl ?_
    refine step (v := .d (.int .i64 a1.What)) rfl ?_
    refine stepW (v := .loc 1 0 r1.length) (σ' := (upd (upd (stab [(0, .lst m0 none (List.map (D.int .u8) a0))]) 0 none) 1 (some (.lst m0 none (List.map (D.int .u8) r1))))) (n' := 2) (SCall.lift [0] (c_save_number hr1) (show 1 ≤ 2 by decide) (by decide) (show ∀ i ∈ [0], i < 1 by decide) (dom_c (show 1 < 2 by decide) dom_n) (VNs.c (.loc 0 _ _ (show 0 < 1 by decide)) (VNs.c (.d _) VNs.nil0)) (SN.c (show 0 < 1 by decide) rfl (.lst _ _ _) SN.nil0)) (show 1 ≤ 2 by decide) ?_
    refine step (v := .d (.cptr (some 12) (eapi_Deed a1) 1)) rfl ?_
    refine step (v := .d (.int .i64 a1.N)) rfl ?_
    refine stepW (v := .loc 2 0 r2.length) (σ' := (upd (upd (upd (upd (stab [(0, .lst m0 none (List.map (D.int .u8) a0))]) 0 none) 1 (some (.lst m0 none (List.map (D.int .u8) r1)))) 1 none) 2 (some (.lst m0 none (List.map (D.int .u8) r2))))) (n' := 3) (SCall.lift [1] (c_save_number hr2) (show 1 ≤ 2 by decide) (by decide) (show ∀ i ∈ [1], i < 2 by decide) (dom_c (show 1 < 2 by decide) dom_n) (VNs.c (.loc 0 _ _ (show 0 < 1 by decide)) (VNs.c (.d _) VNs.nil0)) (SN.c (show 0 < 1 by decide) rfl (.lst _ _ _) SN.nil0)) (show 2 ≤ 3 by decide) ?_
    refine step (v := .loc 2 0 r2.length) rfl ?_
    exact RunOps.nil' (Norm.mk [0, 2] (by decide) (by decide) (by decide) ⟨.loc 1 _ _ (show 1 < 2 by decide), .d _, trivial⟩ ⟨⟨show 1 < 2 by decide, _, rfl, .lst _ _ _⟩, trivial⟩)
  obtain ⟨r3, hr3, h⟩ := bindE h
  refine NWp.opsJ ⟨tab [(0, .loc 1 0 r2.length), (3, .d (.cptr (some 12) (eapi_Deed a1) 0)), (5, .ptr 2 0 0)], stab [(1, .lst m0 none (List.map (D.int .u8) r2)), (2, .var [.d (.bool r3.packet), .d (.bool r3.raw), .d (.bool r3.back)])], 3⟩ ?_ ?_
  · refine step (v := .d (.cptr (some 12) (eapi_Deed a1) 0)) rfl ?_
    refine step (v := .d (.int .i64 a1.What)) rfl ?_
    refine stepC (r := esave_tells r3) (ArgsOk.dt ArgsOk.nil') (c_save_of hr3) ?_
    refine step (v := .ptr 2 0 0) (σ' := (upd (stab [(1, .lst m0 none (List.map (D.int .u8) r2))]) 2 (some (.var [.d (.bool false), .d (.bool false), .d (.bool false)])))) (n' := 3) rfl ?_
    refine step (v := V.undef) (σ' := (upd (upd (stab [(1, .lst m0 none (List.map (D.int .u8) r2))]) 2 (some (.var [.d (.bool false), .d (.bool false), .d (.bool false)]))) 2 (some (.var [.d (.bool r3.packet), .d (.bool r3.raw), .d (.bool r3.back)])))) (n' := 3) rfl ?_
    exact RunOps.nil' (Norm.mk [0, 1, 2] (by decide) (by decide) (by decide) ⟨.loc 1 _ _ (show 1 < 3 by decide), .d _, .ptr 2 _ _ (show 2 < 3 by decide), trivial⟩ ⟨⟨show 1 < 3 by decide, _, rfl, .lst _ _ _⟩, ⟨show 2 < 3 by decide, _, rfl, .vars ⟨.d _, .d _, .d _, trivial⟩⟩, trivial⟩)
  obtain ⟨l24, hv, h⟩ := bindE h
  refine NWp.seqN ⟨tab [(0, .loc 1 0 l24.length)], stab [(1, .lst m0 none (List.map (D.int .u8) l24))], 2⟩ ?_ ?_
  · replace h := hv
    refine NWp.block ?_
    refine NWp.opsJ ⟨tab [(0, .loc 1 0 r2.length), (3, .d (.cptr (some 12) (eapi_Deed a1) 0)), (5, .ptr 2 0 0), (18, .d (.bool r3.packet))], stab [(1, .lst m0 none (List.map (D.int .u8) r2)), (2, .var [.d (.bool r3.packet), .d (.bool r3.raw), .d (.bool r3.back)])], 3⟩ ?_ ?_
    · refine step (v := .ptr 2 0 0) rfl ?_
      refine step (v := .d (.bool r3.packet)) rfl ?_
      refine step (v := .d (.bool r3.packet)) rfl ?_
      exact RunOps.nil' (Norm.mk [0, 1, 2] (by decide) (by decide) (by decide) ⟨.loc 1 _ _ (show 1 < 3 by decide), .d _, .ptr 2 _ _ (show 2 < 3 by decide), .d _, trivial⟩ ⟨⟨show 1 < 3 by decide, _, rfl, .lst _ _ _⟩, ⟨show 2 < 3 by decide, _, rfl, .vars ⟨.d _, .d _, .d _, trivial⟩⟩, trivial⟩)
    by_cases hc4 : r3.packet = true
    · replace h := iteT hc4 h
      refine NWp.condT (t := r3.packet) rfl hc4 ?_
      refine NWp.opsJ ⟨tab [(0, .loc 1 0 r2.length), (22, .d (eL none (D.int .u16) [a1.P.a2, a1.P.a3, a1.P.a4, a1.P.a5, a1.P.a6, a1.P.a7])), (23, .d (.int .i64 ([a1.P.a2, a1.P.a3, a1.P.a4, a1.P.a5, a1.P.a6, a1.P.a7].length : Int))), (24, .d (.int .i64 0))], stab [(1, .lst m0 none (List.map (D.int .u8) r2))], 2⟩ ?_ ?_
      · refine step (v := .d (.cptr (some 12) (eapi_Deed a1) 3)) rfl ?_
        refine step (v := .d (eL none (D.int .u16) [a1.P.a2, a1.P.a3, a1.P.a4, a1.P.a5, a1.P.a6, a1.P.a7])) rfl ?_
        refine step (v := .d (.int .i64 ([a1.P.a2, a1.P.a3, a1.P.a4, a1.P.a5, a1.P.a6, a1.P.a7].length : Int))) (st_len (xs := [a1.P.a2, a1.P.a3, a1.P.a4, a1.P.a5, a1.P.a6, a1.P.a7]) (e := (D.int .u16)) rfl) ?_
        refine step (v := .d (.int .i64 0)) rfl ?_
        exact RunOps.nil' (Norm.mk [0, 1] (by decide) (by decide) (by decide) ⟨.loc 1 _ _ (show 1 < 2 by decide), .d _, .d _, .d _, trivial⟩ ⟨⟨show 1 < 2 by decide, _, rfl, .lst _ _ _⟩, trivial⟩)
      obtain ⟨z14, hl, h⟩ := bindE h
      refine NWp.block ?_
      refine loop_forO (cntU ([a1.P.a2, a1.P.a3, a1.P.a4, a1.P.a5, a1.P.a6, a1.P.a7].length : Int)) (fun (i6 : Int) (qq : (List Int)) => ⟨tab [(0, .loc 1 0 qq.length), (22, .d (eL none (D.int .u16) [a1.P.a2, a1.P.a3, a1.P.a4, a1.P.a5, a1.P.a6, a1.P.a7])), (23, .d (.int .i64 ([a1.P.a2, a1.P.a3, a1.P.a4, a1.P.a5, a1.P.a6, a1.P.a7].length : Int))), (24, .d (.int .i64 i6))], stab [(1, .lst m0 none (List.map (D.int .u8) qq))], 2⟩) 1 (fun (qq : (List Int)) => ⟨tab [(0, .loc 1 0 qq.length)], stab [(1, .lst m0 none (List.map (D.int .u8) qq))], 2⟩) Low low_step hl (by unfold Low; omega) ?_ ?_ ?_
      · rintro i6 l5 xr11 hinv9 hgo8 h
        show NWp _ _ _ _ _ ⟨tab [(0, .loc 1 0 l5.length), (22, .d (eL none (D.int .u16) [a1.P.a2, a1.P.a3, a1.P.a4, a1.P.a5, a1.P.a6, a1.P.a7])), (23, .d (.int .i64 ([a1.P.a2, a1.P.a3, a1.P.a4, a1.P.a5, a1.P.a6, a1.P.a7].length : Int))), (24, .d (.int .i64 i6))], stab [(1, .lst m0 none (List.map (D.int .u8) l5))], 2⟩
        have hc10 : decide (i6 < ([a1.P.a2, a1.P.a3, a1.P.a4, a1.P.a5, a1.P.a6, a1.P.a7].length : Int)) = true := decide_eq_true hgo8
        refine NWp.opsJ ⟨tab [(0, .loc 1 0 l5.length), (22, .d (eL none (D.int .u16) [a1.P.a2, a1.P.a3, a1.P.a4, a1.P.a5, a1.P.a6, a1.P.a7])), (23, .d (.int .i64 ([a1.P.a2, a1.P.a3, a1.P.a4, a1.P.a5, a1.P.a6, a1.P.a7].length : Int))), (24, .d (.int .i64 i6)), (25, .d (.bool (decide (i6 < ([a1.P.a2, a1.P.a3, a1.P.a4, a1.P.a5, a1.P.a6, a1.P.a7].length : Int)))))], stab [(1, .lst m0 none (List.map (D.int .u8) l5))], 2⟩ ?_ ?_
        · refine step (v := .d (.bool (decide (i6 < ([a1.P.a2, a1.P.a3, a1.P.a4, a1.P.a5, a1.P.a6, a1.P.a7].length : Int))))) rfl ?_
          exact RunOps.nil' (Norm.mk [0, 1] (by decide) (by decide) (by decide) ⟨.loc 1 _ _ (show 1 < 2 by decide), .d _, .d _, .d _, .d _, trivial⟩ ⟨⟨show 1 < 2 by decide, _, rfl, .lst _ _ _⟩, trivial⟩)
        refine NWp.rng 23 rfl fun hB7 => ?_
        refine NWp.seq ?_
        refine NWp.condT (t := decide (i6 < ([a1.P.a2, a1.P.a3, a1.P.a4, a1.P.a5, a1.P.a6, a1.P.a7].length : Int))) rfl hc10 ?_
        refine NWp.skip ?_
        refine NWp.seq ?_
        refine NWp.block ?_
        obtain ⟨x12, hx12, h⟩ := bindE h
        refine NWp.opsJ ⟨tab [(0, .loc 1 0 l5.length), (7, .d (.int .u16 x12)), (22, .d (eL none (D.int .u16) [a1.P.a2, a1.P.a3, a1.P.a4, a1.P.a5, a1.P.a6, a1.P.a7])), (23, .d (.int .i64 ([a1.P.a2, a1.P.a3, a1.P.a4, a1.P.a5, a1.P.a6, a1.P.a7].length : Int))), (24, .d (.int .i64 i6))], stab [(1, .lst m0 none (List.map (D.int .u8) l5))], 2⟩ ?_ ?_
        · refine step (v := .d (.cptr none (.int .u16 x12) 0)) (st_iaddr (xs := [a1.P.a2, a1.P.a3, a1.P.a4, a1.P.a5, a1.P.a6, a1.P.a7]) (e := (D.int .u16)) hx12 rfl rfl) ?_
          refine step (v := .d (.int .u16 x12)) rfl ?_
          refine step (v := .d (.int .u16 x12)) rfl ?_
          exact RunOps.nil' (Norm.mk [0, 1] (by decide) (by decide) (by decide) ⟨.loc 1 _ _ (show 1 < 2 by decide), .d _, .d _, .d _, .d _, trivial⟩ ⟨⟨show 1 < 2 by decide, _, rfl, .lst _ _ _⟩, trivial⟩)
        obtain ⟨r13, hr13, h⟩ := bindE h
        refine NWp.opsE ⟨tab [(0, .loc 1 0 r13.length), (22, .d (eL none (D.int .u16) [a1.P.a2, a1.P.a3, a1.P.a4, a1.P.a5, a1.P.a6, a1.P.a7])), (23, .d (.int .i64 ([a1.P.a2, a1.P.a3, a1.P.a4, a1.P.a5, a1.P.a6, a1.P.a7].length : Int))), (24, .d (.int .i64 i6))], stab [(1, .lst m0 none (List.map (D.int .u8) r13))], 2⟩ ?_ ?_
        · refine step (v := .loc 1 0 l5.length) rfl ?_
          refine step (v := .d (.int .u16 x12)) rfl ?_
          refine step (v := .d (.int .i64 (IntKind.i64.wrap x12))) rfl ?_
          refine stepW (v := .loc 2 0 r13.length) (σ' := (upd (upd (stab [(1, .lst m0 none (List.map (D.int .u8) l5))]) 1 none) 2 (some (.lst m0 none (List.map (D.int .u8) r13))))) (n' := 3) (SCall.lift [1] (c_save_number hr13) (show 1 ≤ 2 by decide) (by decide) (show ∀ i ∈ [1], i < 2 by decide) (dom_c (show 1 < 2 by decide) dom_n) (VNs.c (.loc 0 _ _ (show 0 < 1 by decide)) (VNs.c (.d _) VNs.nil0)) (SN.c (show 0 < 1 by decide) rfl (.lst _ _ _) SN.nil0)) (show 2 ≤ 3 by decide) ?_
          refine step (v := .loc 2 0 r13.length) rfl ?_
          exact RunOps.nil' (Norm.mk [0, 2] (by decide) (by decide) (by decide) ⟨.loc 1 _ _ (show 1 < 2 by decide), .d _, .d _, .d _, trivial⟩ ⟨⟨show 1 < 2 by decide, _, rfl, .lst _ _ _⟩, trivial⟩)
        have hh := Option.some.inj h
        subst hh
        refine NWp.opsE ⟨tab [(0, .loc 1 0 r13.length), (22, .d (eL none (D.int .u16) [a1.P.a2, a1.P.a3, a1.P.a4, a1.P.a5, a1.P.a6, a1.P.a7])), (23, .d (.int .i64 ([a1.P.a2, a1.P.a3, a1.P.a4, a1.P.a5, a1.P.a6, a1.P.a7].length : Int))), (24, .d (.int .i64 (i6 + 1)))], stab [(1, .lst m0 none (List.map (D.int .u8) r13))], 2⟩ ?_ ?_
        · refine step (v := .d (.int .i64 (i6 + 1))) (st_inc (inc_ok hinv9 hgo8 hB7) rfl rfl) ?_
          refine step (v := .d (.int .i64 (i6 + 1))) rfl ?_
          exact RunOps.nil' (Norm.mk [0, 1] (by decide) (by decide) (by decide) ⟨.loc 1 _ _ (show 1 < 2 by decide), .d _, .d _, .d _, trivial⟩ ⟨⟨show 1 < 2 by decide, _, rfl, .lst _ _ _⟩, trivial⟩)
        exact And.intro rfl rfl
      · rintro i6 l5 hinv9 hgo8
        show NWp _ _ _ _ _ ⟨tab [(0, .loc 1 0 l5.length), (22, .d (eL none (D.int .u16) [a1.P.a2, a1.P.a3, a1.P.a4, a1.P.a5, a1.P.a6, a1.P.a7])), (23, .d (.int .i64 ([a1.P.a2, a1.P.a3, a1.P.a4, a1.P.a5, a1.P.a6, a1.P.a7].length : Int))), (24, .d (.int .i64 i6))], stab [(1, .lst m0 none (List.map (D.int .u8) l5))], 2⟩
        have hc10 : ¬ (decide (i6 < ([a1.P.a2, a1.P.a3, a1.P.a4, a1.P.a5, a1.P.a6, a1.P.a7].length : Int)) = true) := fun hq => hgo8 (of_decide_eq_true hq)
        refine NWp.opsJ ⟨tab [(0, .loc 1 0 l5.length), (22, .d (eL none (D.int .u16) [a1.P.a2, a1.P.a3, a1.P.a4, a1.P.a5, a1.P.a6, a1.P.a7])), (23, .d (.int .i64 ([a1.P.a2, a1.P.a3, a1.P.a4, a1.P.a5, a1.P.a6, a1.P.a7].length : Int))), (24, .d (.int .i64 i6)), (25, .d (.bool (decide (i6 < ([a1.P.a2, a1.P.a3, a1.P.a4, a1.P.a5, a1.P.a6, a1.P.a7].length : Int)))))], stab [(1, .lst m0 none (List.map (D.int .u8) l5))], 2⟩ ?_ ?_
        · refine step (v := .d (.bool (decide (i6 < ([a1.P.a2, a1.P.a3, a1.P.a4, a1.P.a5, a1.P.a6, a1.P.a7].length : Int))))) rfl ?_
          exact RunOps.nil' (Norm.mk [0, 1] (by decide) (by decide) (by decide) ⟨.loc 1 _ _ (show 1 < 2 by decide), .d _, .d _, .d _, .d _, trivial⟩ ⟨⟨show 1 < 2 by decide, _, rfl, .lst _ _ _⟩, trivial⟩)
        refine NWp.seq ?_
        refine NWp.condF (t := decide (i6 < ([a1.P.a2, a1.P.a3, a1.P.a4, a1.P.a5, a1.P.a6, a1.P.a7].length : Int))) rfl hc10 ?_
        refine NWp.norm (s0 := ⟨tab [(0, .loc 1 0 l5.length)], stab [(1, .lst m0 none (List.map (D.int .u8) l5))], 2⟩) (Norm.mk [0, 1] (by decide) (by decide) (by decide) ⟨.loc 1 _ _ (show 1 < 2 by decide), trivial⟩ ⟨⟨show 1 < 2 by decide, _, rfl, .lst _ _ _⟩, trivial⟩) ?_
        refine NWp.exit ?_
        exact And.intro rfl rfl
      have hh := Option.some.inj h
      subst hh
      exact And.intro rfl rfl
    · replace h := iteF hc4 h
      refine NWp.condF (t := r3.packet) rfl hc4 ?_
      refine NWp.opsJ ⟨tab [(0, .loc 1 0 r2.length), (3, .d (.cptr (some 12) (eapi_Deed a1) 0)), (5, .ptr 2 0 0), (33, .d (.bool r3.raw))], stab [(1, .lst m0 none (List.map (D.int .u8) r2)), (2, .var [.d (.bool r3.packet), .d (.bool r3.raw), .d (.bool r3.back)])], 3⟩ ?_ ?_
      · refine step (v := .ptr 2 0 1) rfl ?_
        refine step (v := .d (.bool r3.raw)) rfl ?_
        refine step (v := .d (.bool r3.raw)) rfl ?_
        exact RunOps.nil' (Norm.mk [0, 1, 2] (by decide) (by decide) (by decide) ⟨.loc 1 _ _ (show 1 < 3 by decide), .d _, .ptr 2 _ _ (show 2 < 3 by decide), .d _, trivial⟩ ⟨⟨show 1 < 3 by decide, _, rfl, .lst _ _ _⟩, ⟨show 2 < 3 by decide, _, rfl, .vars ⟨.d _, .d _, .d _, trivial⟩⟩, trivial⟩)
      by_cases hc16 : r3.raw = true
      · replace h := iteT hc16 h
        refine NWp.condT (t := r3.raw) rfl hc16 ?_
        obtain ⟨r17, hr17, h⟩ := bindE h
        obtain ⟨l18, hl18, h⟩ := bindE h
        have hh := Option.some.inj h
        subst hh
        refine NWp.opsE ⟨tab [(0, .loc 1 0 l18.length)], stab [(1, .lst m0 none (List.map (D.int .u8) l18))], 2⟩ ?_ ?_
        · refine step (v := .loc 1 0 r2.length) rfl ?_
          refine step (v := .d (.cptr (some 12) (eapi_Deed a1) 11)) rfl ?_
          refine step (v := .d (.str a1.Raw)) rfl ?_
          refine step (v := .d (.int .i64 (a1.Raw.size : Int))) rfl ?_
          refine stepW (v := .loc 3 0 r17.length) (σ' := (upd (upd (stab [(1, .lst m0 none (List.map (D.int .u8) r2)), (2, .var [.d (.bool r3.packet), .d (.bool r3.raw), .d (.bool r3.back)])]) 1 none) 3 (some (.lst m0 none (List.map (D.int .u8) r17))))) (n' := 4) (SCall.lift [1] (c_save_number hr17) (show 1 ≤ 2 by decide) (by decide) (show ∀ i ∈ [1], i < 3 by decide) (dom_c (show 1 < 2 by decide) dom_n) (VNs.c (.loc 0 _ _ (show 0 < 1 by decide)) (VNs.c (.d _) VNs.nil0)) (SN.c (show 0 < 1 by decide) rfl (.lst _ _ _) SN.nil0)) (show 3 ≤ 4 by decide) ?_
          refine step (v := .d (.cptr (some 12) (eapi_Deed a1) 11)) rfl ?_
          refine step (v := .d (.str a1.Raw)) rfl ?_
          refine step (v := .loc 4 0 l18.length) (σ' := (upd (upd (upd (upd (stab [(1, .lst m0 none (List.map (D.int .u8) r2)), (2, .var [.d (.bool r3.packet), .d (.bool r3.raw), .d (.bool r3.back)])]) 1 none) 3 (some (.lst m0 none (List.map (D.int .u8) r17)))) 3 none) 4 (some (.lst m0 none (List.map (D.int .u8) l18))))) (n' := 5) (st_app (xs := r17) (ys := bytesOf a1.Raw) (e := (D.int .u8)) hl18 rfl rfl rfl (src_s rfl)) ?_
          refine step (v := .loc 4 0 l18.length) rfl ?_
          exact RunOps.nil' (Norm.mk [0, 4] (by decide) (by decide) (by decide) ⟨.loc 1 _ _ (show 1 < 2 by decide), trivial⟩ ⟨⟨show 1 < 2 by decide, _, rfl, .lst _ _ _⟩, trivial⟩)
        exact And.intro rfl rfl
      · replace h := iteF hc16 h
        refine NWp.condF (t := r3.raw) rfl hc16 ?_
        refine NWp.opsJ ⟨tab [(0, .loc 1 0 r2.length), (5, .ptr 2 0 0), (44, .d (.bool (r3.back && a1.Back)))], stab [(1, .lst m0 none (List.map (D.int .u8) r2)), (2, .var [.d (.bool r3.packet), .d (.bool r3.raw), .d (.bool r3.back)])], 3⟩ ?_ ?_
        · refine step (v := .ptr 2 0 2) rfl ?_
          refine step (v := .d (.bool r3.back)) rfl ?_
          refine step (v := .d (.bool r3.back)) rfl ?_
          by_cases hg19 : r3.back = true
          · refine stepG (c := r3.back) rfl hg19 ?_
            refine step (v := .d (.cptr (some 12) (eapi_Deed a1) 2)) rfl ?_
            refine stepG (c := r3.back) rfl hg19 ?_
            refine step (v := .d (.bool a1.Back)) rfl ?_
            refine step (v := .d (.bool a1.Back)) (st_pickT (b := r3.back) rfl hg19 rfl) ?_
            refine step (v := .d (.bool a1.Back)) rfl ?_
            exact RunOps.nil' (Norm.mk [0, 1, 2] (by decide) (by decide) (by decide) ⟨.loc 1 _ _ (show 1 < 3 by decide), .ptr 2 _ _ (show 2 < 3 by decide), .eq (by simp [hg19]), trivial⟩ ⟨⟨show 1 < 3 by decide, _, rfl, .lst _ _ _⟩, ⟨show 2 < 3 by decide, _, rfl, .vars ⟨.d _, .d _, .d _, trivial⟩⟩, trivial⟩)
          · refine stepX (c := r3.back) rfl hg19 ?_
            refine stepX (c := r3.back) rfl hg19 ?_
            refine step (v := .d (.bool false)) (st_pickF (b := r3.back) rfl hg19 rfl) ?_
            refine step (v := .d (.bool false)) rfl ?_
            exact RunOps.nil' (Norm.mk [0, 1, 2] (by decide) (by decide) (by decide) ⟨.loc 1 _ _ (show 1 < 3 by decide), .ptr 2 _ _ (show 2 < 3 by decide), .eq (by simp [hg19]), trivial⟩ ⟨⟨show 1 < 3 by decide, _, rfl, .lst _ _ _⟩, ⟨show 2 < 3 by decide, _, rfl, .vars ⟨.d _, .d _, .d _, trivial⟩⟩, trivial⟩)
        by_cases hc20 : (r3.back && a1.Back) = true
        · replace h := iteT hc20 h
          refine NWp.condT (t := (r3.back && a1.Back)) rfl hc20 ?_
          obtain ⟨l21, hl21, h⟩ := bindE h
          have hh := Option.some.inj h
          subst hh
          refine NWp.opsE ⟨tab [(0, .loc 1 0 l21.length)], stab [(1, .lst m0 none (List.map (D.int .u8) l21))], 2⟩ ?_ ?_
          · refine step (v := .loc 1 0 r2.length) rfl ?_
            refine step (v := .d (eL none (D.int .u8) ([1] : List Int))) rfl ?_
            refine step (v := .loc 3 0 l21.length) (σ' := (upd (upd (stab [(1, .lst m0 none (List.map (D.int .u8) r2)), (2, .var [.d (.bool r3.packet), .d (.bool r3.raw), .d (.bool r3.back)])]) 1 none) 3 (some (.lst m0 none (List.map (D.int .u8) l21))))) (n' := 4) (st_app (xs := r2) (ys := ([1] : List Int)) (e := (D.int .u8)) hl21 rfl rfl rfl (src_v (xs := ([1] : List Int)) (e := (D.int .u8)) rfl)) ?_
            refine step (v := .loc 3 0 l21.length) rfl ?_
            exact RunOps.nil' (Norm.mk [0, 3] (by decide) (by decide) (by decide) ⟨.loc 1 _ _ (show 1 < 2 by decide), trivial⟩ ⟨⟨show 1 < 2 by decide, _, rfl, .lst _ _ _⟩, trivial⟩)
          exact And.intro rfl rfl
        · replace h := iteF hc20 h
          refine NWp.condF (t := (r3.back && a1.Back)) rfl hc20 ?_
          refine NWp.opsJ ⟨tab [(0, .loc 1 0 r2.length), (54, .d (.bool r3.back))], stab [(1, .lst m0 none (List.map (D.int .u8) r2))], 2⟩ ?_ ?_
          · refine step (v := .ptr 2 0 2) rfl ?_
            refine step (v := .d (.bool r3.back)) rfl ?_
            refine step (v := .d (.bool r3.back)) rfl ?_
            exact RunOps.nil' (Norm.mk [0, 1] (by decide) (by decide) (by decide) ⟨.loc 1 _ _ (show 1 < 2 by decide), .d _, trivial⟩ ⟨⟨show 1 < 2 by decide, _, rfl, .lst _ _ _⟩, trivial⟩)
          by_cases hc22 : r3.back = true
          · replace h := iteT hc22 h
            refine NWp.condT (t := r3.back) rfl hc22 ?_
            obtain ⟨l23, hl23, h⟩ := bindE h
            have hh := Option.some.inj h
            subst hh
            refine NWp.opsE ⟨tab [(0, .loc 1 0 l23.length)], stab [(1, .lst m0 none (List.map (D.int .u8) l23))], 2⟩ ?_ ?_
            · refine step (v := .loc 1 0 r2.length) rfl ?_
              refine step (v := .d (eL none (D.int .u8) ([0] : List Int))) rfl ?_
              refine step (v := .loc 2 0 l23.length) (σ' := (upd (upd (stab [(1, .lst m0 none (List.map (D.int .u8) r2))]) 1 none) 2 (some (.lst m0 none (List.map (D.int .u8) l23))))) (n' := 3) (st_app (xs := r2) (ys := ([0] : List Int)) (e := (D.int .u8)) hl23 rfl rfl rfl (src_v (xs := ([0] : List Int)) (e := (D.int .u8)) rfl)) ?_
              refine step (v := .loc 2 0 l23.length) rfl ?_
              exact RunOps.nil' (Norm.mk [0, 2] (by decide) (by decide) (by decide) ⟨.loc 1 _ _ (show 1 < 2 by decide), trivial⟩ ⟨⟨show 1 < 2 by decide, _, rfl, .lst _ _ _⟩, trivial⟩)
            exact And.intro rfl rfl
          · replace h := iteF hc22 h
            refine NWp.condF (t := r3.back) rfl hc22 ?_
            have hh := Option.some.inj h
            subst hh
            refine NWp.norm (s0 := ⟨tab [(0, .loc 1 0 r2.length)], stab [(1, .lst m0 none (List.map (D.int .u8) r2))], 2⟩) (Norm.mk [0, 1] (by decide) (by decide) (by decide) ⟨.loc 1 _ _ (show 1 < 2 by decide), trivial⟩ ⟨⟨show 1 < 2 by decide, _, rfl, .lst _ _ _⟩, trivial⟩) ?_
            refine NWp.skip ?_
            exact And.intro rfl rfl
  refine NWp.opsJ ⟨tab [(4, .loc 1 0 l24.length)], stab [(1, .lst m0 none (List.map (D.int .u8) l24))], 2⟩ ?_ ?_
  · refine step (v := .loc 1 0 l24.length) rfl ?_
    refine step (v := .loc 1 0 l24.length) rfl ?_
    exact RunOps.nil' (Norm.mk [0, 1] (by decide) (by decide) (by decide) ⟨.loc 1 _ _ (show 1 < 2 by decide), trivial⟩ ⟨⟨show 1 < 2 by decide, _, rfl, .lst _ _ _⟩, trivial⟩)
  have hh := Option.some.inj h
  subst hh
  refine NWp.ret ?_
  exact ⟨.inr rfl, _, rfl, rfl, AllS.sub ⟨rfl, trivial⟩, rfl⟩

theorem c_save_check {m0 : Bool} {a0 : (List Int)} {r : (List Int)} (h : save_check a0 = some r) : SCall Try.prog 53 [.loc 0 0 a0.length] (stab [(0, .lst m0 none (List.map (D.int .u8) a0))]) 1 (.loc 1 0 r.length) (stab [(1, .lst m0 none (List.map (D.int .u8) r))]) 2 := by
  refine SCall.introN (bl := [(0, .lst m0 none (List.map (D.int .u8) a0))]) (bl' := [(1, .lst m0 none (List.map (D.int .u8) r))]) ok53 (show 1 ≤ 30 by decide) rfl ?_
  refine NWp.norm (s0 := ⟨tab [(0, .loc 0 0 a0.length)], stab [(0, .lst m0 none (List.map (D.int .u8) a0))], 1⟩) (Norm.mk [0] (by decide) (by decide) (by decide) ⟨.loc 0 _ _ (show 0 < 1 by decide), trivial⟩ ⟨⟨show 0 < 1 by decide, _, rfl, .lst _ _ _⟩, trivial⟩) ?_
  refine NWp.opsJ ⟨tab [(0, .loc 0 0 a0.length)], stab [(0, .lst m0 none (List.map (D.int .u8) a0))], 1⟩ ?_ ?_
  · refine step (v := .d (eL none (D.int .u8) ([] : List Int))) rfl ?_
    exact RunOps.nil' (Norm.mk [0] (by decide) (by decide) (by decide) ⟨.loc 0 _ _ (show 0 < 1 by decide), trivial⟩ ⟨⟨show 0 < 1 by decide, _, rfl, .lst _ _ _⟩, trivial⟩)
  refine NWp.opsJ ⟨tab [(0, .loc 0 0 a0.length), (3, .d (.int .i64 0))], stab [(0, .lst m0 none (List.map (D.int .u8) a0))], 1⟩ ?_ ?_
  · refine step (v := .d (.int .i64 0)) rfl ?_
    exact RunOps.nil' (Norm.mk [0] (by decide) (by decide) (by decide) ⟨.loc 0 _ _ (show 0 < 1 by decide), .d _, trivial⟩ ⟨⟨show 0 < 1 by decide, _, rfl, .lst _ _ _⟩, trivial⟩)
  refine NWp.seq ?_
  refine NWp.opsJ ⟨tab [(0, .loc 0 0 a0.length), (3, .d (.int .i64 0)), (6, .loc 0 0 a0.length), (7, .d (.int .i64 (a0.length : Int))), (8, .d (.int .i64 0))], stab [(0, .lst m0 none (List.map (D.int .u8) a0))], 1⟩ ?_ ?_
  · refine step (v := .loc 0 0 a0.length) rfl ?_
    refine step (v := .d (.int .i64 (a0.length : Int))) rfl ?_
    refine step (v := .d (.int .i64 0)) rfl ?_
    exact RunOps.nil' (Norm.mk [0] (by decide) (by decide) (by decide) ⟨.loc 0 _ _ (show 0 < 1 by decide), .d _, .loc 0 _ _ (show 0 < 1 by decide), .d _, .d _, trivial⟩ ⟨⟨show 0 < 1 by decide, _, rfl, .lst _ _ _⟩, trivial⟩)
  obtain ⟨z9, hl, h⟩ := bindE h
  refine NWp.block ?_
  refine loop_forO (cntU (a0.length : Int)) (fun (i2 : Int) (qq : Int) => ⟨tab [(0, .loc 0 0 a0.length), (3, .d (.int .i64 qq)), (6, .loc 0 0 a0.length), (7, .d (.int .i64 (a0.length : Int))), (8, .d (.int .i64 i2))], stab [(0, .lst m0 none (List.map (D.int .u8) a0))], 1⟩) 0 (fun (qq : Int) => ⟨tab [(0, .loc 0 0 a0.length), (3, .d (.int .i64 qq))], stab [(0, .lst m0 none (List.map (D.int .u8) a0))], 1⟩) Low low_step hl (by unfold Low; omega) ?_ ?_ ?_
  · rintro i2 i1 xr7 hinv5 hgo4 h
    show NWp _ _ _ _ _ ⟨tab [(0, .loc 0 0 a0.length), (3, .d (.int .i64 i1)), (6, .loc 0 0 a0.length), (7, .d (.int .i64 (a0.length : Int))), (8, .d (.int .i64 i2))], stab [(0, .lst m0 none (List.map (D.int .u8) a0))], 1⟩
    have hc6 : decide (i2 < (a0.length : Int)) = true := decide_eq_true hgo4
    refine NWp.opsJ ⟨tab [(0, .loc 0 0 a0.length), (3, .d (.int .i64 i1)), (6, .loc 0 0 a0.length), (7, .d (.int .i64 (a0.length : Int))), (8, .d (.int .i64 i2)), (9, .d (.bool (decide (i2 < (a0.length : Int)))))], stab [(0, .lst m0 none (List.map (D.int .u8) a0))], 1⟩ ?_ ?_
    · refine step (v := .d (.bool (decide (i2 < (a0.length : Int))))) rfl ?_
      exact RunOps.nil' (Norm.mk [0] (by decide) (by decide) (by decide) ⟨.loc 0 _ _ (show 0 < 1 by decide), .d _, .loc 0 _ _ (show 0 < 1 by decide), .d _, .d _, .d _, trivial⟩ ⟨⟨show 0 < 1 by decide, _, rfl, .lst _ _ _⟩, trivial⟩)
    refine NWp.rng 7 rfl fun hB3 => ?_
    refine NWp.seq ?_
    refine NWp.condT (t := decide (i2 < (a0.length : Int))) rfl hc6 ?_
    refine NWp.skip ?_
    refine NWp.seq ?_
    refine NWp.block ?_
    obtain ⟨x8, hx8, h⟩ := bindE h
    refine NWp.opsJ ⟨tab [(0, .loc 0 0 a0.length), (3, .d (.int .i64 i1)), (4, .d (.int .i64 i2)), (5, .d (.int .u8 x8)), (6, .loc 0 0 a0.length), (7, .d (.int .i64 (a0.length : Int))), (8, .d (.int .i64 i2))], stab [(0, .lst m0 none (List.map (D.int .u8) a0))], 1⟩ ?_ ?_
    · refine step (v := .d (.int .i64 i2)) rfl ?_
      refine step (v := .ptr 0 i2.toNat 0) (st_iaddrL (xs := a0) (e := (D.int .u8)) hx8 rfl rfl rfl rfl) ?_
      refine step (v := .d (.int .u8 x8)) (st_loadL (xs := a0) (e := (D.int .u8)) hx8 rfl rfl rfl) ?_
      refine step (v := .d (.int .i64 i2)) rfl ?_
      refine step (v := .d (.int .u8 x8)) rfl ?_
      exact RunOps.nil' (Norm.mk [0] (by decide) (by decide) (by decide) ⟨.loc 0 _ _ (show 0 < 1 by decide), .d _, .d _, .d _, .loc 0 _ _ (show 0 < 1 by decide), .d _, .d _, trivial⟩ ⟨⟨show 0 < 1 by decide, _, rfl, .lst _ _ _⟩, trivial⟩)
    refine NWp.opsE ⟨tab [(0, .loc 0 0 a0.length), (3, .d (.int .i64 ((IntKind.i64.wrap (i1 + (IntKind.i64.wrap ((i2 + 1) * (IntKind.i64.wrap x8))))).tmod 65521))), (6, .loc 0 0 a0.length), (7, .d (.int .i64 (a0.length : Int))), (8, .d (.int .i64 i2))], stab [(0, .lst m0 none (List.map (D.int .u8) a0))], 1⟩ ?_ ?_
    · refine step (v := .d (.int .i64 i1)) rfl ?_
      refine step (v := .d (.int .i64 i2)) rfl ?_
      refine step (v := .d (.int .i64 (i2 + 1))) (st_inc (inc_ok hinv5 hgo4 hB3) rfl rfl) ?_
      refine step (v := .d (.int .u8 x8)) rfl ?_
      refine step (v := .d (.int .i64 (IntKind.i64.wrap x8))) rfl ?_
      refine step (v := .d (.int .i64 (IntKind.i64.wrap ((i2 + 1) * (IntKind.i64.wrap x8))))) rfl ?_
      refine step (v := .d (.int .i64 (IntKind.i64.wrap (i1 + (IntKind.i64.wrap ((i2 + 1) * (IntKind.i64.wrap x8))))))) rfl ?_
      refine step (v := .d (.int .i64 ((IntKind.i64.wrap (i1 + (IntKind.i64.wrap ((i2 + 1) * (IntKind.i64.wrap x8))))).tmod 65521))) rfl ?_
      refine step (v := .d (.int .i64 ((IntKind.i64.wrap (i1 + (IntKind.i64.wrap ((i2 + 1) * (IntKind.i64.wrap x8))))).tmod 65521))) rfl ?_
      exact RunOps.nil' (Norm.mk [0] (by decide) (by decide) (by decide) ⟨.loc 0 _ _ (show 0 < 1 by decide), .d _, .loc 0 _ _ (show 0 < 1 by decide), .d _, .d _, trivial⟩ ⟨⟨show 0 < 1 by decide, _, rfl, .lst _ _ _⟩, trivial⟩)
    have hh := Option.some.inj h
    subst hh
    refine NWp.opsE ⟨tab [(0, .loc 0 0 a0.length), (3, .d (.int .i64 ((IntKind.i64.wrap (i1 + (IntKind.i64.wrap ((i2 + 1) * (IntKind.i64.wrap x8))))).tmod 65521))), (6, .loc 0 0 a0.length), (7, .d (.int .i64 (a0.length : Int))), (8, .d (.int .i64 (i2 + 1)))], stab [(0, .lst m0 none (List.map (D.int .u8) a0))], 1⟩ ?_ ?_
    · refine step (v := .d (.int .i64 (i2 + 1))) (st_inc (inc_ok hinv5 hgo4 hB3) rfl rfl) ?_
      refine step (v := .d (.int .i64 (i2 + 1))) rfl ?_
      exact RunOps.nil' (Norm.mk [0] (by decide) (by decide) (by decide) ⟨.loc 0 _ _ (show 0 < 1 by decide), .d _, .loc 0 _ _ (show 0 < 1 by decide), .d _, .d _, trivial⟩ ⟨⟨show 0 < 1 by decide, _, rfl, .lst _ _ _⟩, trivial⟩)
    exact And.intro rfl rfl
  · rintro i2 i1 hinv5 hgo4
    show NWp _ _ _ _ _ ⟨tab [(0, .loc 0 0 a0.length), (3, .d (.int .i64 i1)), (6, .loc 0 0 a0.length), (7, .d (.int .i64 (a0.length : Int))), (8, .d (.int .i64 i2))], stab [(0, .lst m0 none (List.map (D.int .u8) a0))], 1⟩
    have hc6 : ¬ (decide (i2 < (a0.length : Int)) = true) := fun hq => hgo4 (of_decide_eq_true hq)
    refine NWp.opsJ ⟨tab [(0, .loc 0 0 a0.length), (3, .d (.int .i64 i1)), (6, .loc 0 0 a0.length), (7, .d (.int .i64 (a0.length : Int))), (8, .d (.int .i64 i2)), (9, .d (.bool (decide (i2 < (a0.length : Int)))))], stab [(0, .lst m0 none (List.map (D.int .u8) a0))], 1⟩ ?_ ?_
    · refine step (v := .d (.bool (decide (i2 < (a0.length : Int))))) rfl ?_
      exact RunOps.nil' (Norm.mk [0] (by decide) (by decide) (by decide) ⟨.loc 0 _ _ (show 0 < 1 by decide), .d _, .loc 0 _ _ (show 0 < 1 by decide), .d _, .d _, .d _, trivial⟩ ⟨⟨show 0 < 1 by decide, _, rfl, .lst _ _ _⟩, trivial⟩)
    refine NWp.seq ?_
    refine NWp.condF (t := decide (i2 < (a0.length : Int))) rfl hc6 ?_
    refine NWp.norm (s0 := ⟨tab [(0, .loc 0 0 a0.length), (3, .d (.int .i64 i1))], stab [(0, .lst m0 none (List.map (D.int .u8) a0))], 1⟩) (Norm.mk [0] (by decide) (by decide) (by decide) ⟨.loc 0 _ _ (show 0 < 1 by decide), .d _, trivial⟩ ⟨⟨show 0 < 1 by decide, _, rfl, .lst _ _ _⟩, trivial⟩) ?_
    refine NWp.exit ?_
    exact And.intro rfl rfl
  obtain ⟨l10, hl10, h⟩ := bindE h
  refine NWp.opsJ ⟨tab [(2, .loc 1 0 l10.length)], stab [(1, .lst m0 none (List.map (D.int .u8) l10))], 2⟩ ?_ ?_
  · refine step (v := .loc 0 0 a0.length) rfl ?_
    refine step (v := .d (.int .i64 z9)) rfl ?_
    refine step (v := .d (.int .i64 (z9.fdiv (2 ^ 8)))) rfl ?_
    refine step (v := .d (.int .u8 (IntKind.u8.wrap (z9.fdiv (2 ^ 8))))) rfl ?_
    refine step (v := .d (.int .i64 z9)) rfl ?_
    refine step (v := .d (.int .u8 (IntKind.u8.wrap z9))) rfl ?_
    refine step (v := .d (eL none (D.int .u8) ([IntKind.u8.wrap (z9.fdiv (2 ^ 8)), IntKind.u8.wrap z9] : List Int))) rfl ?_
    refine step (v := .loc 1 0 l10.length) (σ' := (upd (upd (stab [(0, .lst m0 none (List.map (D.int .u8) a0))]) 0 none) 1 (some (.lst m0 none (List.map (D.int .u8) l10))))) (n' := 2) (st_app (xs := a0) (ys := ([IntKind.u8.wrap (z9.fdiv (2 ^ 8)), IntKind.u8.wrap z9] : List Int)) (e := (D.int .u8)) hl10 rfl rfl rfl (src_v (xs := ([IntKind.u8.wrap (z9.fdiv (2 ^ 8)), IntKind.u8.wrap z9] : List Int)) (e := (D.int .u8)) rfl)) ?_
    refine step (v := .loc 1 0 l10.length) rfl ?_
    exact RunOps.nil' (Norm.mk [0, 1] (by decide) (by decide) (by decide) ⟨.loc 1 _ _ (show 1 < 2 by decide), trivial⟩ ⟨⟨show 1 < 2 by decide, _, rfl, .lst _ _ _⟩, trivial⟩)
  have hh := Option.some.inj h
  subst hh
  refine NWp.ret ?_
  exact ⟨.inr rfl, _, rfl, rfl, AllS.sub ⟨rfl, trivial⟩, rfl⟩

theorem c_save_Encode {a0 : (List api_Deed)} {r : (ByteArray × Int)} (h : save_Encode a0 = some r) : PCall Try.prog 21 [eL (some 12) eapi_Deed a0] (.tup [.str r.1, .int .i64 r.2]) := by
  refine PCall.introN ok21 (show 1 ≤ 39 by decide) ?_
  refine NWp.norm (s0 := ⟨tab [(0, .d (eL (some 12) eapi_Deed a0))], stab [], 0⟩) (Norm.mk [] (by decide) (by decide) (by decide) ⟨.d _, trivial⟩ trivial) ?_
  refine NWp.opsJ ⟨tab [(0, .d (eL (some 12) eapi_Deed a0))], stab [], 0⟩ ?_ ?_
  · refine step (v := .d (.str (⟨#[]⟩ : ByteArray))) rfl ?_
    refine step (v := .d (.int .i64 0)) rfl ?_
    exact RunOps.nil' (Norm.mk [] (by decide) (by decide) (by decide) ⟨.d _, trivial⟩ trivial)
  refine NWp.seq ?_
  refine NWp.opsJ ⟨tab [(0, .d (eL (some 12) eapi_Deed a0)), (9, .d (eL (some 12) eapi_Deed a0)), (10, .d (.int .i64 (a0.length : Int))), (11, .d (.int .i64 0))], stab [], 0⟩ ?_ ?_
  · refine step (v := .d (eL (some 12) eapi_Deed a0)) rfl ?_
    refine step (v := .d (.int .i64 (a0.length : Int))) (st_len (xs := a0) (e := eapi_Deed) rfl) ?_
    refine step (v := .d (.int .i64 0)) rfl ?_
    exact RunOps.nil' (Norm.mk [] (by decide) (by decide) (by decide) ⟨.d _, .d _, .d _, .d _, trivial⟩ trivial)
  obtain ⟨q24, hl, h⟩ := bindE h
  refine NWp.block ?_
  refine loop_forR (cntU (a0.length : Int)) (fun (i1 : Int) (qq : Unit) => ⟨tab [(0, .d (eL (some 12) eapi_Deed a0)), (9, .d (eL (some 12) eapi_Deed a0)), (10, .d (.int .i64 (a0.length : Int))), (11, .d (.int .i64 i1))], stab [], 0⟩) 0 (fun (qq : Unit) => ⟨tab [(0, .d (eL (some 12) eapi_Deed a0))], stab [], 0⟩) Low low_step (r := r) hl (by unfold Low; omega) ?_ ?_ ?_ ?_
  · rintro i1 ⟨⟩ xr6 hinv4 hgo3 h
    show NWp _ _ _ _ _ ⟨tab [(0, .d (eL (some 12) eapi_Deed a0)), (9, .d (eL (some 12) eapi_Deed a0)), (10, .d (.int .i64 (a0.length : Int))), (11, .d (.int .i64 i1))], stab [], 0⟩
    have hc5 : decide (i1 < (a0.length : Int)) = true := decide_eq_true hgo3
    refine NWp.opsJ ⟨tab [(0, .d (eL (some 12) eapi_Deed a0)), (9, .d (eL (some 12) eapi_Deed a0)), (10, .d (.int .i64 (a0.length : Int))), (11, .d (.int .i64 i1)), (12, .d (.bool (decide (i1 < (a0.length : Int)))))], stab [], 0⟩ ?_ ?_
    · refine step (v := .d (.bool (decide (i1 < (a0.length : Int))))) rfl ?_
      exact RunOps.nil' (Norm.mk [] (by decide) (by decide) (by decide) ⟨.d _, .d _, .d _, .d _, .d _, trivial⟩ trivial)
    refine NWp.rng 10 rfl fun hB2 => ?_
    refine NWp.seq ?_
    refine NWp.condT (t := decide (i1 < (a0.length : Int))) rfl hc5 ?_
    refine NWp.skip ?_
    refine NWp.seq ?_
    refine NWp.block ?_
    obtain ⟨x7, hx7, h⟩ := bindE h
    refine NWp.opsJ ⟨tab [(0, .d (eL (some 12) eapi_Deed a0)), (5, .ptr 0 0 0), (9, .d (eL (some 12) eapi_Deed a0)), (10, .d (.int .i64 (a0.length : Int))), (11, .d (.int .i64 i1))], stab [(0, .var [.d (.int .i64 x7.What), .d (.int .i64 x7.N), .d (.bool x7.Back), .d (.int .u16 x7.P.a0), .d (.int .u16 x7.P.a1), .d (.int .u16 x7.P.a2), .d (.int .u16 x7.P.a3), .d (.int .u16 x7.P.a4), .d (.int .u16 x7.P.a5), .d (.int .u16 x7.P.a6), .d (.int .u16 x7.P.a7), .d (.str x7.Raw)])], 1⟩ ?_ ?_
    · refine step (v := .d (.cptr (some 12) (eapi_Deed x7) 0)) (st_iaddr (xs := a0) (e := eapi_Deed) hx7 rfl rfl) ?_
      refine step (v := .d (eapi_Deed x7)) rfl ?_
      refine step (v := .ptr 0 0 0) (σ' := (upd (stab []) 0 (some (.var [.d (.int .i64 0), .d (.int .i64 0), .d (.bool false), .d (.int .u16 0), .d (.int .u16 0), .d (.int .u16 0), .d (.int .u16 0), .d (.int .u16 0), .d (.int .u16 0), .d (.int .u16 0), .d (.int .u16 0), .d (.str (⟨#[]⟩ : ByteArray))])))) (n' := 1) rfl ?_
      refine step (v := V.undef) (σ' := (upd (upd (stab []) 0 (some (.var [.d (.int .i64 0), .d (.int .i64 0), .d (.bool false), .d (.int .u16 0), .d (.int .u16 0), .d (.int .u16 0), .d (.int .u16 0), .d (.int .u16 0), .d (.int .u16 0), .d (.int .u16 0), .d (.int .u16 0), .d (.str (⟨#[]⟩ : ByteArray))]))) 0 (some (.var [.d (.int .i64 x7.What), .d (.int .i64 x7.N), .d (.bool x7.Back), .d (.int .u16 x7.P.a0), .d (.int .u16 x7.P.a1), .d (.int .u16 x7.P.a2), .d (.int .u16 x7.P.a3), .d (.int .u16 x7.P.a4), .d (.int .u16 x7.P.a5), .d (.int .u16 x7.P.a6), .d (.int .u16 x7.P.a7), .d (.str x7.Raw)])))) (n' := 1) rfl ?_
      exact RunOps.nil' (Norm.mk [0] (by decide) (by decide) (by decide) ⟨.d _, .ptr 0 _ _ (show 0 < 1 by decide), .d _, .d _, .d _, trivial⟩ ⟨⟨show 0 < 1 by decide, _, rfl, .vars ⟨.d _, .d _, .d _, .d _, .d _, .d _, .d _, .d _, .d _, .d _, .d _, .d _, trivial⟩⟩, trivial⟩)
    obtain ⟨r8, hr8, h⟩ := bindE h
    refine NWp.opsJ ⟨tab [(0, .d (eL (some 12) eapi_Deed a0)), (9, .d (eL (some 12) eapi_Deed a0)), (10, .d (.int .i64 (a0.length : Int))), (11, .d (.int .i64 i1)), (17, .d (.bool (!r8)))], stab [], 0⟩ ?_ ?_
    · refine step (v := .d (eapi_Deed x7)) (st_ldV (ds := [.int .i64 x7.What, .int .i64 x7.N, .bool x7.Back, .int .u16 x7.P.a0, .int .u16 x7.P.a1, .int .u16 x7.P.a2, .int .u16 x7.P.a3, .int .u16 x7.P.a4, .int .u16 x7.P.a5, .int .u16 x7.P.a6, .int .u16 x7.P.a7, .str x7.Raw]) rfl rfl (show 12 ≤ 12 by decide) rfl) ?_
      refine stepC (r := .bool r8) (ArgsOk.dt ArgsOk.nil') (c_save_may hr8) ?_
      refine step (v := .d (.bool (!r8))) rfl ?_
      exact RunOps.nil' (Norm.mk [] (by decide) (by decide) (by decide) ⟨.d _, .d _, .d _, .d _, .d _, trivial⟩ trivial)
    by_cases hc9 : (!r8) = true
    · replace h := iteT hc9 h
      refine NWp.condT (t := (!r8)) rfl hc9 ?_
      refine NWp.opsJ ⟨tab [(2, .d (.str (⟨#[]⟩ : ByteArray))), (3, .d (.int .i64 1))], stab [], 0⟩ ?_ ?_
      · refine step (v := .d (.str (⟨#[]⟩ : ByteArray))) rfl ?_
        refine step (v := .d (.int .i64 1)) rfl ?_
        exact RunOps.nil' (Norm.mk [] (by decide) (by decide) (by decide) ⟨.d _, .d _, trivial⟩ trivial)
      obtain ⟨r10, kr10, hr⟩ := mapE (o := some ((⟨#[]⟩ : ByteArray), 1)) (g := Br.ret) h
      subst hr
      have h := kr10
      have hh := Option.some.inj h
      subst hh
      refine NWp.ret ?_
      refine And.intro (fun hn => nomatch hn) ?_
      intro hq
      have hq := hq.symm
      subst hq
      show FQ _ _ _ _
      exact FQ.mkT (.inr rfl) (res_t (v := .d (.str (⟨#[]⟩ : ByteArray))) rfl (res_t (v := .d (.int .i64 1)) rfl rfl)) (RV.d (RV.d trivial))
    · replace h := iteF hc9 h
      refine NWp.condF (t := (!r8)) rfl hc9 ?_
      refine NWp.skip ?_
      have hh := Option.some.inj h
      subst hh
      refine NWp.opsE ⟨tab [(0, .d (eL (some 12) eapi_Deed a0)), (9, .d (eL (some 12) eapi_Deed a0)), (10, .d (.int .i64 (a0.length : Int))), (11, .d (.int .i64 (i1 + 1)))], stab [], 0⟩ ?_ ?_
      · refine step (v := .d (.int .i64 (i1 + 1))) (st_inc (inc_ok hinv4 hgo3 hB2) rfl rfl) ?_
        refine step (v := .d (.int .i64 (i1 + 1))) rfl ?_
        exact RunOps.nil' (Norm.mk [] (by decide) (by decide) (by decide) ⟨.d _, .d _, .d _, .d _, trivial⟩ trivial)
      exact And.intro rfl rfl
  · rintro i1 ⟨⟩ hinv4 hgo3
    show NWp _ _ _ _ _ ⟨tab [(0, .d (eL (some 12) eapi_Deed a0)), (9, .d (eL (some 12) eapi_Deed a0)), (10, .d (.int .i64 (a0.length : Int))), (11, .d (.int .i64 i1))], stab [], 0⟩
    have hc5 : ¬ (decide (i1 < (a0.length : Int)) = true) := fun hq => hgo3 (of_decide_eq_true hq)
    refine NWp.opsJ ⟨tab [(0, .d (eL (some 12) eapi_Deed a0)), (9, .d (eL (some 12) eapi_Deed a0)), (10, .d (.int .i64 (a0.length : Int))), (11, .d (.int .i64 i1)), (12, .d (.bool (decide (i1 < (a0.length : Int)))))], stab [], 0⟩ ?_ ?_
    · refine step (v := .d (.bool (decide (i1 < (a0.length : Int))))) rfl ?_
      exact RunOps.nil' (Norm.mk [] (by decide) (by decide) (by decide) ⟨.d _, .d _, .d _, .d _, .d _, trivial⟩ trivial)
    refine NWp.seq ?_
    refine NWp.condF (t := decide (i1 < (a0.length : Int))) rfl hc5 ?_
    refine NWp.norm (s0 := ⟨tab [(0, .d (eL (some 12) eapi_Deed a0))], stab [], 0⟩) (Norm.mk [] (by decide) (by decide) (by decide) ⟨.d _, trivial⟩ trivial) ?_
    refine NWp.exit ?_
    exact And.intro rfl rfl
  · intro r' hq
    subst hq
    exact Option.some.inj h
  rintro ⟨⟩ rfl
  refine NWp.seq ?_
  refine NWp.opsJ ⟨tab [(0, .d (eL (some 12) eapi_Deed a0)), (21, .d (.bool (decide ((a0.length : Int) > 10000))))], stab [], 0⟩ ?_ ?_
  · refine step (v := .d (eL (some 12) eapi_Deed a0)) rfl ?_
    refine step (v := .d (.int .i64 (a0.length : Int))) (st_len (xs := a0) (e := eapi_Deed) rfl) ?_
    refine step (v := .d (.bool (decide ((a0.length : Int) > 10000)))) rfl ?_
    exact RunOps.nil' (Norm.mk [] (by decide) (by decide) (by decide) ⟨.d _, .d _, trivial⟩ trivial)
  by_cases hc10 : decide ((a0.length : Int) > 10000) = true
  · replace h := iteT hc10 h
    refine NWp.condT (t := decide ((a0.length : Int) > 10000)) rfl hc10 ?_
    refine NWp.opsJ ⟨tab [(2, .d (.str (⟨#[]⟩ : ByteArray))), (3, .d (.int .i64 2))], stab [], 0⟩ ?_ ?_
    · refine step (v := .d (.str (⟨#[]⟩ : ByteArray))) rfl ?_
      refine step (v := .d (.int .i64 2)) rfl ?_
      exact RunOps.nil' (Norm.mk [] (by decide) (by decide) (by decide) ⟨.d _, .d _, trivial⟩ trivial)
    have hh := Option.some.inj h
    subst hh
    refine NWp.ret ?_
    show FQ _ _ _ _
    exact FQ.mkT (.inr rfl) (res_t (v := .d (.str (⟨#[]⟩ : ByteArray))) rfl (res_t (v := .d (.int .i64 2)) rfl rfl)) (RV.d (RV.d trivial))
  · replace h := iteF hc10 h
    refine NWp.condF (t := decide ((a0.length : Int) > 10000)) rfl hc10 ?_
    refine NWp.skip ?_
    obtain ⟨r11, hr11, h⟩ := bindE h
    refine NWp.opsJ ⟨tab [(0, .d (eL (some 12) eapi_Deed a0)), (6, .loc 0 0 r11.length)], stab [(0, .lst false none (List.map (D.int .u8) r11))], 1⟩ ?_ ?_
    · refine step (v := .loc 0 0 (([68] : List Int).length)) (σ' := (upd (stab []) 0 (some (.lst false none (List.map (D.int .u8) ([68] : List Int)))))) (n' := 1) rfl ?_
      refine step (v := .d (eL (some 12) eapi_Deed a0)) rfl ?_
      refine step (v := .d (.int .i64 (a0.length : Int))) (st_len (xs := a0) (e := eapi_Deed) rfl) ?_
      refine stepW (v := .loc 1 0 r11.length) (σ' := (upd (upd (upd (stab []) 0 (some (.lst false none (List.map (D.int .u8) ([68] : List Int))))) 0 none) 1 (some (.lst false none (List.map (D.int .u8) r11))))) (n' := 2) (SCall.lift [0] (c_save_number hr11) (show 1 ≤ 2 by decide) (by decide) (show ∀ i ∈ [0], i < 1 by decide) (dom_c (show 1 < 2 by decide) dom_n) (VNs.c (.loc 0 _ _ (show 0 < 1 by decide)) (VNs.c (.d _) VNs.nil0)) (SN.c (show 0 < 1 by decide) rfl (.lst _ _ _) SN.nil0)) (show 1 ≤ 2 by decide) ?_
      refine step (v := .loc 1 0 r11.length) rfl ?_
      exact RunOps.nil' (Norm.mk [1] (by decide) (by decide) (by decide) ⟨.d _, .loc 0 _ _ (show 0 < 1 by decide), trivial⟩ ⟨⟨show 0 < 1 by decide, _, rfl, .lst _ _ _⟩, trivial⟩)
    refine NWp.seq ?_
    refine NWp.opsJ ⟨tab [(6, .loc 0 0 r11.length), (26, .d (eL (some 12) eapi_Deed a0)), (27, .d (.int .i64 (a0.length : Int))), (28, .d (.int .i64 0))], stab [(0, .lst false none (List.map (D.int .u8) r11))], 1⟩ ?_ ?_
    · refine step (v := .d (eL (some 12) eapi_Deed a0)) rfl ?_
      refine step (v := .d (.int .i64 (a0.length : Int))) (st_len (xs := a0) (e := eapi_Deed) rfl) ?_
      refine step (v := .d (.int .i64 0)) rfl ?_
      exact RunOps.nil' (Norm.mk [0] (by decide) (by decide) (by decide) ⟨.loc 0 _ _ (show 0 < 1 by decide), .d _, .d _, .d _, trivial⟩ ⟨⟨show 0 < 1 by decide, _, rfl, .lst _ _ _⟩, trivial⟩)
    obtain ⟨z21, hl, h⟩ := bindE h
    refine NWp.block ?_
    refine loop_forO (cntU (a0.length : Int)) (fun (i13 : Int) (qq : (List Int)) => ⟨tab [(6, .loc 0 0 qq.length), (26, .d (eL (some 12) eapi_Deed a0)), (27, .d (.int .i64 (a0.length : Int))), (28, .d (.int .i64 i13))], stab [(0, .lst false none (List.map (D.int .u8) qq))], 1⟩) 2 (fun (qq : (List Int)) => ⟨tab [(6, .loc 0 0 qq.length)], stab [(0, .lst false none (List.map (D.int .u8) qq))], 1⟩) Low low_step hl (by unfold Low; omega) ?_ ?_ ?_
    · rintro i13 l12 xr18 hinv16 hgo15 h
      show NWp _ _ _ _ _ ⟨tab [(6, .loc 0 0 l12.length), (26, .d (eL (some 12) eapi_Deed a0)), (27, .d (.int .i64 (a0.length : Int))), (28, .d (.int .i64 i13))], stab [(0, .lst false none (List.map (D.int .u8) l12))], 1⟩
      have hc17 : decide (i13 < (a0.length : Int)) = true := decide_eq_true hgo15
      refine NWp.opsJ ⟨tab [(6, .loc 0 0 l12.length), (26, .d (eL (some 12) eapi_Deed a0)), (27, .d (.int .i64 (a0.length : Int))), (28, .d (.int .i64 i13)), (29, .d (.bool (decide (i13 < (a0.length : Int)))))], stab [(0, .lst false none (List.map (D.int .u8) l12))], 1⟩ ?_ ?_
      · refine step (v := .d (.bool (decide (i13 < (a0.length : Int))))) rfl ?_
        exact RunOps.nil' (Norm.mk [0] (by decide) (by decide) (by decide) ⟨.loc 0 _ _ (show 0 < 1 by decide), .d _, .d _, .d _, .d _, trivial⟩ ⟨⟨show 0 < 1 by decide, _, rfl, .lst _ _ _⟩, trivial⟩)
      refine NWp.rng 27 rfl fun hB14 => ?_
      refine NWp.seq ?_
      refine NWp.condT (t := decide (i13 < (a0.length : Int))) rfl hc17 ?_
      refine NWp.skip ?_
      refine NWp.seq ?_
      refine NWp.block ?_
      obtain ⟨x19, hx19, h⟩ := bindE h
      refine NWp.opsJ ⟨tab [(6, .loc 0 0 l12.length), (8, .ptr 1 0 0), (26, .d (eL (some 12) eapi_Deed a0)), (27, .d (.int .i64 (a0.length : Int))), (28, .d (.int .i64 i13))], stab [(0, .lst false none (List.map (D.int .u8) l12)), (1, .var [.d (.int .i64 x19.What), .d (.int .i64 x19.N), .d (.bool x19.Back), .d (.int .u16 x19.P.a0), .d (.int .u16 x19.P.a1), .d (.int .u16 x19.P.a2), .d (.int .u16 x19.P.a3), .d (.int .u16 x19.P.a4), .d (.int .u16 x19.P.a5), .d (.int .u16 x19.P.a6), .d (.int .u16 x19.P.a7), .d (.str x19.Raw)])], 2⟩ ?_ ?_
      · refine step (v := .d (.cptr (some 12) (eapi_Deed x19) 0)) (st_iaddr (xs := a0) (e := eapi_Deed) hx19 rfl rfl) ?_
        refine step (v := .d (eapi_Deed x19)) rfl ?_
        refine step (v := .ptr 1 0 0) (σ' := (upd (stab [(0, .lst false none (List.map (D.int .u8) l12))]) 1 (some (.var [.d (.int .i64 0), .d (.int .i64 0), .d (.bool false), .d (.int .u16 0), .d (.int .u16 0), .d (.int .u16 0), .d (.int .u16 0), .d (.int .u16 0), .d (.int .u16 0), .d (.int .u16 0), .d (.int .u16 0), .d (.str (⟨#[]⟩ : ByteArray))])))) (n' := 2) rfl ?_
        refine step (v := V.undef) (σ' := (upd (upd (stab [(0, .lst false none (List.map (D.int .u8) l12))]) 1 (some (.var [.d (.int .i64 0), .d (.int .i64 0), .d (.bool false), .d (.int .u16 0), .d (.int .u16 0), .d (.int .u16 0), .d (.int .u16 0), .d (.int .u16 0), .d (.int .u16 0), .d (.int .u16 0), .d (.int .u16 0), .d (.str (⟨#[]⟩ : ByteArray))]))) 1 (some (.var [.d (.int .i64 x19.What), .d (.int .i64 x19.N), .d (.bool x19.Back), .d (.int .u16 x19.P.a0), .d (.int .u16 x19.P.a1), .d (.int .u16 x19.P.a2), .d (.int .u16 x19.P.a3), .d (.int .u16 x19.P.a4), .d (.int .u16 x19.P.a5), .d (.int .u16 x19.P.a6), .d (.int .u16 x19.P.a7), .d (.str x19.Raw)])))) (n' := 2) rfl ?_
        exact RunOps.nil' (Norm.mk [0, 1] (by decide) (by decide) (by decide) ⟨.loc 0 _ _ (show 0 < 2 by decide), .ptr 1 _ _ (show 1 < 2 by decide), .d _, .d _, .d _, trivial⟩ ⟨⟨show 0 < 2 by decide, _, rfl, .lst _ _ _⟩, ⟨show 1 < 2 by decide, _, rfl, .vars ⟨.d _, .d _, .d _, .d _, .d _, .d _, .d _, .d _, .d _, .d _, .d _, .d _, trivial⟩⟩, trivial⟩)
      obtain ⟨r20, hr20, h⟩ := bindE h
      refine NWp.opsE ⟨tab [(6, .loc 0 0 r20.length), (26, .d (eL (some 12) eapi_Deed a0)), (27, .d (.int .i64 (a0.length : Int))), (28, .d (.int .i64 i13))], stab [(0, .lst false none (List.map (D.int .u8) r20))], 1⟩ ?_ ?_
      · refine step (v := .loc 0 0 l12.length) rfl ?_
        refine step (v := .d (eapi_Deed x19)) (st_ldV (ds := [.int .i64 x19.What, .int .i64 x19.N, .bool x19.Back, .int .u16 x19.P.a0, .int .u16 x19.P.a1, .int .u16 x19.P.a2, .int .u16 x19.P.a3, .int .u16 x19.P.a4, .int .u16 x19.P.a5, .int .u16 x19.P.a6, .int .u16 x19.P.a7, .str x19.Raw]) rfl rfl (show 12 ≤ 12 by decide) rfl) ?_
        refine stepW (v := .loc 2 0 r20.length) (σ' := (upd (upd (stab [(0, .lst false none (List.map (D.int .u8) l12)), (1, .var [.d (.int .i64 x19.What), .d (.int .i64 x19.N), .d (.bool x19.Back), .d (.int .u16 x19.P.a0), .d (.int .u16 x19.P.a1), .d (.int .u16 x19.P.a2), .d (.int .u16 x19.P.a3), .d (.int .u16 x19.P.a4), .d (.int .u16 x19.P.a5), .d (.int .u16 x19.P.a6), .d (.int .u16 x19.P.a7), .d (.str x19.Raw)])]) 0 none) 2 (some (.lst false none (List.map (D.int .u8) r20))))) (n' := 3) (SCall.lift [0] (c_save_deed hr20) (show 1 ≤ 2 by decide) (by decide) (show ∀ i ∈ [0], i < 2 by decide) (dom_c (show 1 < 2 by decide) dom_n) (VNs.c (.loc 0 _ _ (show 0 < 1 by decide)) (VNs.c (.d _) VNs.nil0)) (SN.c (show 0 < 1 by decide) rfl (.lst _ _ _) SN.nil0)) (show 2 ≤ 3 by decide) ?_
        refine step (v := .loc 2 0 r20.length) rfl ?_
        exact RunOps.nil' (Norm.mk [2] (by decide) (by decide) (by decide) ⟨.loc 0 _ _ (show 0 < 1 by decide), .d _, .d _, .d _, trivial⟩ ⟨⟨show 0 < 1 by decide, _, rfl, .lst _ _ _⟩, trivial⟩)
      have hh := Option.some.inj h
      subst hh
      refine NWp.opsE ⟨tab [(6, .loc 0 0 r20.length), (26, .d (eL (some 12) eapi_Deed a0)), (27, .d (.int .i64 (a0.length : Int))), (28, .d (.int .i64 (i13 + 1)))], stab [(0, .lst false none (List.map (D.int .u8) r20))], 1⟩ ?_ ?_
      · refine step (v := .d (.int .i64 (i13 + 1))) (st_inc (inc_ok hinv16 hgo15 hB14) rfl rfl) ?_
        refine step (v := .d (.int .i64 (i13 + 1))) rfl ?_
        exact RunOps.nil' (Norm.mk [0] (by decide) (by decide) (by decide) ⟨.loc 0 _ _ (show 0 < 1 by decide), .d _, .d _, .d _, trivial⟩ ⟨⟨show 0 < 1 by decide, _, rfl, .lst _ _ _⟩, trivial⟩)
      exact And.intro rfl rfl
    · rintro i13 l12 hinv16 hgo15
      show NWp _ _ _ _ _ ⟨tab [(6, .loc 0 0 l12.length), (26, .d (eL (some 12) eapi_Deed a0)), (27, .d (.int .i64 (a0.length : Int))), (28, .d (.int .i64 i13))], stab [(0, .lst false none (List.map (D.int .u8) l12))], 1⟩
      have hc17 : ¬ (decide (i13 < (a0.length : Int)) = true) := fun hq => hgo15 (of_decide_eq_true hq)
      refine NWp.opsJ ⟨tab [(6, .loc 0 0 l12.length), (26, .d (eL (some 12) eapi_Deed a0)), (27, .d (.int .i64 (a0.length : Int))), (28, .d (.int .i64 i13)), (29, .d (.bool (decide (i13 < (a0.length : Int)))))], stab [(0, .lst false none (List.map (D.int .u8) l12))], 1⟩ ?_ ?_
      · refine step (v := .d (.bool (decide (i13 < (a0.length : Int))))) rfl ?_
        exact RunOps.nil' (Norm.mk [0] (by decide) (by decide) (by decide) ⟨.loc 0 _ _ (show 0 < 1 by decide), .d _, .d _, .d _, .d _, trivial⟩ ⟨⟨show 0 < 1 by decide, _, rfl, .lst _ _ _⟩, trivial⟩)
      refine NWp.seq ?_
      refine NWp.condF (t := decide (i13 < (a0.length : Int))) rfl hc17 ?_
      refine NWp.norm (s0 := ⟨tab [(6, .loc 0 0 l12.length)], stab [(0, .lst false none (List.map (D.int .u8) l12))], 1⟩) (Norm.mk [0] (by decide) (by decide) (by decide) ⟨.loc 0 _ _ (show 0 < 1 by decide), trivial⟩ ⟨⟨show 0 < 1 by decide, _, rfl, .lst _ _ _⟩, trivial⟩) ?_
      refine NWp.exit ?_
      exact And.intro rfl rfl
    obtain ⟨r22, hr22, h⟩ := bindE h
    refine NWp.opsJ ⟨tab [(2, .d (.str (strOfB r22))), (3, .d (.int .i64 0))], stab [], 0⟩ ?_ ?_
    · refine step (v := .loc 0 0 z21.length) rfl ?_
      refine stepW (v := .loc 1 0 r22.length) (σ' := (upd (upd (stab [(0, .lst false none (List.map (D.int .u8) z21))]) 0 none) 1 (some (.lst false none (List.map (D.int .u8) r22))))) (n' := 2) (SCall.lift [0] (c_save_check hr22) (show 1 ≤ 2 by decide) (by decide) (show ∀ i ∈ [0], i < 1 by decide) (dom_c (show 1 < 2 by decide) dom_n) (VNs.c (.loc 0 _ _ (show 0 < 1 by decide)) VNs.nil0) (SN.c (show 0 < 1 by decide) rfl (.lst _ _ _) SN.nil0)) (show 1 ≤ 2 by decide) ?_
      refine step (v := .d (.str (strOfB r22))) (st_b2sL (xs := r22) rfl rfl rfl) ?_
      refine step (v := .d (.str (strOfB r22))) rfl ?_
      refine step (v := .d (.int .i64 0)) rfl ?_
      exact RunOps.nil' (Norm.mk [] (by decide) (by decide) (by decide) ⟨.d _, .d _, trivial⟩ trivial)
    have hh := Option.some.inj h
    subst hh
    refine NWp.ret ?_
    show FQ _ _ _ _
    exact FQ.mkT (.inr rfl) (res_t (v := .d (.str (strOfB r22))) rfl (res_t (v := .d (.int .i64 0)) rfl rfl)) (RV.d (RV.d trivial))

theorem c_save_reader_take {a0 : save_reader} {a1 : Int} {r : (ByteArray × save_reader)} (h : save_reader_take a0 a1 = some r) : SCall Try.prog 82 [.ptr 0 0 0, .d (.int .i64 a1)] (stab [(0, .var [.d (.str a0.s), .d (.bool a0.bad)])]) 1 (.d (.str r.1)) (stab [(0, .var [.d (.str r.2.s), .d (.bool r.2.bad)])]) 1 := by
  refine SCall.introN (bl := [(0, .var [.d (.str a0.s), .d (.bool a0.bad)])]) (bl' := [(0, .var [.d (.str r.2.s), .d (.bool r.2.bad)])]) ok82 (show 2 ≤ 38 by decide) rfl ?_
  refine NWp.norm (s0 := ⟨tab [(0, .ptr 0 0 0), (1, .d (.int .i64 a1))], stab [(0, .var [.d (.str a0.s), .d (.bool a0.bad)])], 1⟩) (Norm.mk [0] (by decide) (by decide) (by decide) ⟨.ptr 0 _ _ (show 0 < 1 by decide), .d _, trivial⟩ ⟨⟨show 0 < 1 by decide, _, rfl, .vars ⟨.d _, .d _, trivial⟩⟩, trivial⟩) ?_
  refine NWp.opsJ ⟨tab [(0, .ptr 0 0 0), (1, .d (.int .i64 a1))], stab [(0, .var [.d (.str a0.s), .d (.bool a0.bad)])], 1⟩ ?_ ?_
  · refine step (v := .d (.str (⟨#[]⟩ : ByteArray))) rfl ?_
    exact RunOps.nil' (Norm.mk [0] (by decide) (by decide) (by decide) ⟨.ptr 0 _ _ (show 0 < 1 by decide), .d _, trivial⟩ ⟨⟨show 0 < 1 by decide, _, rfl, .vars ⟨.d _, .d _, trivial⟩⟩, trivial⟩)
  refine NWp.seq ?_
  refine NWp.opsJ ⟨tab [(0, .ptr 0 0 0), (1, .d (.int .i64 a1)), (18, .d (.bool (a0.bad || (decide (a1 > (a0.s.size : Int))))))], stab [(0, .var [.d (.str a0.s), .d (.bool a0.bad)])], 1⟩ ?_ ?_
  · refine step (v := .ptr 0 0 0) rfl ?_
    refine step (v := .ptr 0 0 0) rfl ?_
    refine step (v := .ptr 0 0 1) rfl ?_
    refine step (v := .d (.bool a0.bad)) rfl ?_
    refine step (v := .d (.bool a0.bad)) rfl ?_
    by_cases hg1 : a0.bad = true
    · refine stepX (c := a0.bad) rfl (by rw [hg1]; decide) ?_
      refine stepX (c := a0.bad) rfl (by rw [hg1]; decide) ?_
      refine stepX (c := a0.bad) rfl (by rw [hg1]; decide) ?_
      refine stepX (c := a0.bad) rfl (by rw [hg1]; decide) ?_
      refine stepX (c := a0.bad) rfl (by rw [hg1]; decide) ?_
      refine stepX (c := a0.bad) rfl (by rw [hg1]; decide) ?_
      refine stepX (c := a0.bad) rfl (by rw [hg1]; decide) ?_
      refine step (v := .d (.bool true)) (st_pickT (b := a0.bad) rfl hg1 rfl) ?_
      exact RunOps.nil' (Norm.mk [0] (by decide) (by decide) (by decide) ⟨.ptr 0 _ _ (show 0 < 1 by decide), .d _, .eq (by simp [hg1]), trivial⟩ ⟨⟨show 0 < 1 by decide, _, rfl, .vars ⟨.d _, .d _, trivial⟩⟩, trivial⟩)
    · refine stepG (c := a0.bad) rfl (Bool.eq_false_iff.2 hg1) ?_
      refine step (v := .d (.int .i64 a1)) rfl ?_
      refine stepG (c := a0.bad) rfl (Bool.eq_false_iff.2 hg1) ?_
      refine step (v := .ptr 0 0 0) rfl ?_
      refine stepG (c := a0.bad) rfl (Bool.eq_false_iff.2 hg1) ?_
      refine step (v := .ptr 0 0 0) rfl ?_
      refine stepG (c := a0.bad) rfl (Bool.eq_false_iff.2 hg1) ?_
      refine step (v := .ptr 0 0 0) rfl ?_
      refine stepG (c := a0.bad) rfl (Bool.eq_false_iff.2 hg1) ?_
      refine step (v := .d (.str a0.s)) rfl ?_
      refine stepG (c := a0.bad) rfl (Bool.eq_false_iff.2 hg1) ?_
      refine step (v := .d (.int .i64 (a0.s.size : Int))) rfl ?_
      refine stepG (c := a0.bad) rfl (Bool.eq_false_iff.2 hg1) ?_
      refine step (v := .d (.bool (decide (a1 > (a0.s.size : Int))))) rfl ?_
      refine step (v := .d (.bool (decide (a1 > (a0.s.size : Int))))) (st_pickF (b := a0.bad) rfl hg1 rfl) ?_
      exact RunOps.nil' (Norm.mk [0] (by decide) (by decide) (by decide) ⟨.ptr 0 _ _ (show 0 < 1 by decide), .d _, .eq (by simp [hg1]), trivial⟩ ⟨⟨show 0 < 1 by decide, _, rfl, .vars ⟨.d _, .d _, trivial⟩⟩, trivial⟩)
  by_cases hc2 : (a0.bad || (decide (a1 > (a0.s.size : Int)))) = true
  · replace h := iteT hc2 h
    refine NWp.condT (t := (a0.bad || (decide (a1 > (a0.s.size : Int))))) rfl hc2 ?_
    refine NWp.opsJ ⟨tab [], stab [(0, .var [.d (.str a0.s), .d (.bool true)])], 1⟩ ?_ ?_
    · refine step (v := .ptr 0 0 0) rfl ?_
      refine step (v := .ptr 0 0 0) rfl ?_
      refine step (v := .ptr 0 0 1) rfl ?_
      refine step (v := V.undef) (σ' := (upd (stab [(0, .var [.d (.str a0.s), .d (.bool a0.bad)])]) 0 (some (.var [.d (.str a0.s), .d (.bool true)])))) (n' := 1) rfl ?_
      exact RunOps.nil' (Norm.mk [0] (by decide) (by decide) (by decide) trivial ⟨⟨show 0 < 1 by decide, _, rfl, .vars ⟨.d _, .d _, trivial⟩⟩, trivial⟩)
    refine NWp.opsJ ⟨tab [(4, .d (.str (⟨#[]⟩ : ByteArray)))], stab [(0, .var [.d (.str a0.s), .d (.bool true)])], 1⟩ ?_ ?_
    · refine step (v := .d (.str (⟨#[]⟩ : ByteArray))) rfl ?_
      exact RunOps.nil' (Norm.mk [0] (by decide) (by decide) (by decide) ⟨.d _, trivial⟩ ⟨⟨show 0 < 1 by decide, _, rfl, .vars ⟨.d _, .d _, trivial⟩⟩, trivial⟩)
    have hh := Option.some.inj h
    subst hh
    refine NWp.ret ?_
    exact ⟨.inr rfl, _, rfl, rfl, AllS.sub ⟨rfl, trivial⟩, rfl⟩
  · replace h := iteF hc2 h
    refine NWp.condF (t := (a0.bad || (decide (a1 > (a0.s.size : Int))))) rfl hc2 ?_
    refine NWp.skip ?_
    obtain ⟨s3, hs3, h⟩ := bindE h
    refine NWp.opsJ ⟨tab [(0, .ptr 0 0 0), (1, .d (.int .i64 a1)), (5, .d (.str s3))], stab [(0, .var [.d (.str a0.s), .d (.bool a0.bad)])], 1⟩ ?_ ?_
    · refine step (v := .ptr 0 0 0) rfl ?_
      refine step (v := .ptr 0 0 0) rfl ?_
      refine step (v := .ptr 0 0 0) rfl ?_
      refine step (v := .d (.str a0.s)) rfl ?_
      refine step (v := .d (.int .i64 a1)) rfl ?_
      refine step (v := .d (.str s3)) (st_sstr hs3 rfl rfl ⟨_, rfl⟩) ?_
      refine step (v := .d (.str s3)) rfl ?_
      exact RunOps.nil' (Norm.mk [0] (by decide) (by decide) (by decide) ⟨.ptr 0 _ _ (show 0 < 1 by decide), .d _, .d _, trivial⟩ ⟨⟨show 0 < 1 by decide, _, rfl, .vars ⟨.d _, .d _, trivial⟩⟩, trivial⟩)
    obtain ⟨s4, hs4, h⟩ := bindE h
    refine NWp.opsJ ⟨tab [(5, .d (.str s3))], stab [(0, .var [.d (.str s4), .d (.bool a0.bad)])], 1⟩ ?_ ?_
    · refine step (v := .ptr 0 0 0) rfl ?_
      refine step (v := .ptr 0 0 0) rfl ?_
      refine step (v := .ptr 0 0 0) rfl ?_
      refine step (v := .ptr 0 0 0) rfl ?_
      refine step (v := .d (.str a0.s)) rfl ?_
      refine step (v := .d (.int .i64 a1)) rfl ?_
      refine step (v := .d (.str s4)) (st_sstr hs4 rfl ⟨_, rfl⟩ rfl) ?_
      refine step (v := .ptr 0 0 0) rfl ?_
      refine step (v := .ptr 0 0 0) rfl ?_
      refine step (v := V.undef) (σ' := (upd (stab [(0, .var [.d (.str a0.s), .d (.bool a0.bad)])]) 0 (some (.var [.d (.str s4), .d (.bool a0.bad)])))) (n' := 1) rfl ?_
      exact RunOps.nil' (Norm.mk [0] (by decide) (by decide) (by decide) ⟨.d _, trivial⟩ ⟨⟨show 0 < 1 by decide, _, rfl, .vars ⟨.d _, .d _, trivial⟩⟩, trivial⟩)
    refine NWp.opsJ ⟨tab [(4, .d (.str s3))], stab [(0, .var [.d (.str s4), .d (.bool a0.bad)])], 1⟩ ?_ ?_
    · refine step (v := .d (.str s3)) rfl ?_
      refine step (v := .d (.str s3)) rfl ?_
      exact RunOps.nil' (Norm.mk [0] (by decide) (by decide) (by decide) ⟨.d _, trivial⟩ ⟨⟨show 0 < 1 by decide, _, rfl, .vars ⟨.d _, .d _, trivial⟩⟩, trivial⟩)
    have hh := Option.some.inj h
    subst hh
    refine NWp.ret ?_
    exact ⟨.inr rfl, _, rfl, rfl, AllS.sub ⟨rfl, trivial⟩, rfl⟩

theorem c_save_reader_number {a0 : save_reader} {a1 : Int} {r : (Int × save_reader)} (h : save_reader_number a0 a1 = some r) : SCall Try.prog 54 [.ptr 0 0 0, .d (.int .i64 a1)] (stab [(0, .var [.d (.str a0.s), .d (.bool a0.bad)])]) 1 (.d (.int .i64 r.1)) (stab [(0, .var [.d (.str r.2.s), .d (.bool r.2.bad)])]) 1 := by
  refine SCall.introN (bl := [(0, .var [.d (.str a0.s), .d (.bool a0.bad)])]) (bl' := [(0, .var [.d (.str r.2.s), .d (.bool r.2.bad)])]) ok54 (show 2 ≤ 49 by decide) rfl ?_
  refine NWp.norm (s0 := ⟨tab [(0, .ptr 0 0 0), (1, .d (.int .i64 a1))], stab [(0, .var [.d (.str a0.s), .d (.bool a0.bad)])], 1⟩) (Norm.mk [0] (by decide) (by decide) (by decide) ⟨.ptr 0 _ _ (show 0 < 1 by decide), .d _, trivial⟩ ⟨⟨show 0 < 1 by decide, _, rfl, .vars ⟨.d _, .d _, trivial⟩⟩, trivial⟩) ?_
  refine NWp.opsJ ⟨tab [(0, .ptr 0 0 0), (1, .d (.int .i64 a1))], stab [(0, .var [.d (.str a0.s), .d (.bool a0.bad)])], 1⟩ ?_ ?_
  · refine step (v := .d (.int .i64 0)) rfl ?_
    exact RunOps.nil' (Norm.mk [0] (by decide) (by decide) (by decide) ⟨.ptr 0 _ _ (show 0 < 1 by decide), .d _, trivial⟩ ⟨⟨show 0 < 1 by decide, _, rfl, .vars ⟨.d _, .d _, trivial⟩⟩, trivial⟩)
  refine NWp.opsJ ⟨tab [(0, .ptr 0 0 0), (1, .d (.int .i64 a1)), (5, .d (.int .i64 0))], stab [(0, .var [.d (.str a0.s), .d (.bool a0.bad)])], 1⟩ ?_ ?_
  · refine step (v := .d (.int .i64 0)) rfl ?_
    exact RunOps.nil' (Norm.mk [0] (by decide) (by decide) (by decide) ⟨.ptr 0 _ _ (show 0 < 1 by decide), .d _, .d _, trivial⟩ ⟨⟨show 0 < 1 by decide, _, rfl, .vars ⟨.d _, .d _, trivial⟩⟩, trivial⟩)
  refine NWp.seq ?_
  refine NWp.opsJ ⟨tab [(0, .ptr 0 0 0), (1, .d (.int .i64 a1)), (5, .d (.int .i64 0)), (8, .d (.int .i64 0))], stab [(0, .var [.d (.str a0.s), .d (.bool a0.bad)])], 1⟩ ?_ ?_
  · refine step (v := .d (.int .i64 0)) rfl ?_
    exact RunOps.nil' (Norm.mk [0] (by decide) (by decide) (by decide) ⟨.ptr 0 _ _ (show 0 < 1 by decide), .d _, .d _, .d _, trivial⟩ ⟨⟨show 0 < 1 by decide, _, rfl, .vars ⟨.d _, .d _, trivial⟩⟩, trivial⟩)
  obtain ⟨q18, hl, h⟩ := bindE h
  refine NWp.block ?_
  refine loop_forR (cntU 5) (fun (i2 : Int) (qq : (Int × save_reader)) => ⟨tab [(0, .ptr 0 0 0), (1, .d (.int .i64 a1)), (5, .d (.int .i64 qq.1)), (8, .d (.int .i64 i2))], stab [(0, .var [.d (.str qq.2.s), .d (.bool qq.2.bad)])], 1⟩) 0 (fun (qq : (Int × save_reader)) => ⟨tab [(0, .ptr 0 0 0)], stab [(0, .var [.d (.str qq.2.s), .d (.bool qq.2.bad)])], 1⟩) Low low_step (r := r) hl (by unfold Low; omega) ?_ ?_ ?_ ?_
  · rintro i2 ⟨i1, y3⟩ xr8 hinv6 hgo5 h
    show NWp _ _ _ _ _ ⟨tab [(0, .ptr 0 0 0), (1, .d (.int .i64 a1)), (5, .d (.int .i64 i1)), (8, .d (.int .i64 i2))], stab [(0, .var [.d (.str y3.s), .d (.bool y3.bad)])], 1⟩
    have hc7 : decide (i2 < 5) = true := decide_eq_true hgo5
    refine NWp.opsJ ⟨tab [(0, .ptr 0 0 0), (1, .d (.int .i64 a1)), (5, .d (.int .i64 i1)), (8, .d (.int .i64 i2)), (9, .d (.bool (decide (i2 < 5))))], stab [(0, .var [.d (.str y3.s), .d (.bool y3.bad)])], 1⟩ ?_ ?_
    · refine step (v := .d (.bool (decide (i2 < 5)))) rfl ?_
      exact RunOps.nil' (Norm.mk [0] (by decide) (by decide) (by decide) ⟨.ptr 0 _ _ (show 0 < 1 by decide), .d _, .d _, .d _, .d _, trivial⟩ ⟨⟨show 0 < 1 by decide, _, rfl, .vars ⟨.d _, .d _, trivial⟩⟩, trivial⟩)
    refine NWp.seq ?_
    refine NWp.condT (t := decide (i2 < 5)) rfl hc7 ?_
    refine NWp.skip ?_
    refine NWp.seq ?_
    refine NWp.block ?_
    refine NWp.opsJ ⟨tab [(0, .ptr 0 0 0), (1, .d (.int .i64 a1)), (5, .d (.int .i64 i1)), (6, .d (.int .i64 i2)), (8, .d (.int .i64 i2))], stab [(0, .var [.d (.str y3.s), .d (.bool y3.bad)])], 1⟩ ?_ ?_
    · refine step (v := .d (.int .i64 i2)) rfl ?_
      refine step (v := .d (.int .i64 i2)) rfl ?_
      exact RunOps.nil' (Norm.mk [0] (by decide) (by decide) (by decide) ⟨.ptr 0 _ _ (show 0 < 1 by decide), .d _, .d _, .d _, .d _, trivial⟩ ⟨⟨show 0 < 1 by decide, _, rfl, .vars ⟨.d _, .d _, trivial⟩⟩, trivial⟩)
    obtain ⟨r9, hr9, h⟩ := bindE h
    refine NWp.opsJ ⟨tab [(0, .ptr 0 0 0), (1, .d (.int .i64 a1)), (5, .d (.int .i64 i1)), (6, .d (.int .i64 i2)), (7, .d (.str r9.1)), (8, .d (.int .i64 i2))], stab [(0, .var [.d (.str r9.2.s), .d (.bool r9.2.bad)])], 1⟩ ?_ ?_
    · refine step (v := .ptr 0 0 0) rfl ?_
      refine stepW (v := .d (.str r9.1)) (σ' := (upd (upd (stab [(0, .var [.d (.str y3.s), .d (.bool y3.bad)])]) 0 none) 0 (some (.var [.d (.str r9.2.s), .d (.bool r9.2.bad)])))) (n' := 1) (SCall.lift [0] (c_save_reader_take hr9) (show 1 ≤ 1 by decide) (by decide) (show ∀ i ∈ [0], i < 1 by decide) (dom_c (show 0 < 1 by decide) dom_n) (VNs.c (.ptr 0 _ _ (show 0 < 1 by decide)) (VNs.c (.d _) VNs.nil0)) (SN.c (show 0 < 1 by decide) rfl (.vars (VNs.c (.d _) (VNs.c (.d _) VNs.nil0))) SN.nil0)) (show 1 ≤ 1 by decide) ?_
      refine step (v := .d (.str r9.1)) rfl ?_
      exact RunOps.nil' (Norm.mk [0] (by decide) (by decide) (by decide) ⟨.ptr 0 _ _ (show 0 < 1 by decide), .d _, .d _, .d _, .d _, .d _, trivial⟩ ⟨⟨show 0 < 1 by decide, _, rfl, .vars ⟨.d _, .d _, trivial⟩⟩, trivial⟩)
    refine NWp.seq ?_
    refine NWp.opsJ ⟨tab [(0, .ptr 0 0 0), (1, .d (.int .i64 a1)), (5, .d (.int .i64 i1)), (6, .d (.int .i64 i2)), (7, .d (.str r9.1)), (8, .d (.int .i64 i2)), (16, .d (.bool r9.2.bad))], stab [(0, .var [.d (.str r9.2.s), .d (.bool r9.2.bad)])], 1⟩ ?_ ?_
    · refine step (v := .ptr 0 0 0) rfl ?_
      refine step (v := .ptr 0 0 0) rfl ?_
      refine step (v := .ptr 0 0 1) rfl ?_
      refine step (v := .d (.bool r9.2.bad)) rfl ?_
      exact RunOps.nil' (Norm.mk [0] (by decide) (by decide) (by decide) ⟨.ptr 0 _ _ (show 0 < 1 by decide), .d _, .d _, .d _, .d _, .d _, .d _, trivial⟩ ⟨⟨show 0 < 1 by decide, _, rfl, .vars ⟨.d _, .d _, trivial⟩⟩, trivial⟩)
    by_cases hc10 : r9.2.bad = true
    · replace h := iteT hc10 h
      refine NWp.condT (t := r9.2.bad) rfl hc10 ?_
      refine NWp.opsJ ⟨tab [(4, .d (.int .i64 0))], stab [(0, .var [.d (.str r9.2.s), .d (.bool r9.2.bad)])], 1⟩ ?_ ?_
      · refine step (v := .d (.int .i64 0)) rfl ?_
        exact RunOps.nil' (Norm.mk [0] (by decide) (by decide) (by decide) ⟨.d _, trivial⟩ ⟨⟨show 0 < 1 by decide, _, rfl, .vars ⟨.d _, .d _, trivial⟩⟩, trivial⟩)
      obtain ⟨r11, kr11, hr⟩ := mapE (o := some (0, r9.2)) (g := Br.ret) h
      subst hr
      have h := kr11
      have hh := Option.some.inj h
      subst hh
      refine NWp.ret ?_
      refine And.intro (fun hn => nomatch hn) ?_
      intro hq
      have hq := hq.symm
      subst hq
      exact ⟨.inr rfl, _, rfl, rfl, AllS.sub ⟨rfl, trivial⟩, rfl⟩
    · replace h := iteF hc10 h
      refine NWp.condF (t := r9.2.bad) rfl hc10 ?_
      refine NWp.skip ?_
      obtain ⟨b11, hb11, h⟩ := bindE h
      obtain ⟨q12, hq12, h⟩ := bindE h
      refine NWp.opsJ ⟨tab [(0, .ptr 0 0 0), (1, .d (.int .i64 a1)), (5, .d (.int .i64 (orI .i64 i1 q12))), (6, .d (.int .i64 i2)), (7, .d (.str r9.1)), (8, .d (.int .i64 i2))], stab [(0, .var [.d (.str r9.2.s), .d (.bool r9.2.bad)])], 1⟩ ?_ ?_
      · refine step (v := .d (.int .i64 i1)) rfl ?_
        refine step (v := .d (.str r9.1)) rfl ?_
        refine step (v := .d (.int .u8 b11)) (st_idxS hb11 rfl rfl) ?_
        refine step (v := .d (.int .u8 (andI .u8 b11 127))) rfl ?_
        refine step (v := .d (.int .i64 (IntKind.i64.wrap (andI .u8 b11 127)))) rfl ?_
        refine step (v := .d (.int .i64 i2)) rfl ?_
        refine step (v := .d (.int .i64 (IntKind.i64.wrap (7 * i2)))) rfl ?_
        refine step (v := .d (.int .i64 q12)) (st_shl hq12 rfl rfl) ?_
        refine step (v := .d (.int .i64 (orI .i64 i1 q12))) rfl ?_
        refine step (v := .d (.int .i64 (orI .i64 i1 q12))) rfl ?_
        exact RunOps.nil' (Norm.mk [0] (by decide) (by decide) (by decide) ⟨.ptr 0 _ _ (show 0 < 1 by decide), .d _, .d _, .d _, .d _, .d _, trivial⟩ ⟨⟨show 0 < 1 by decide, _, rfl, .vars ⟨.d _, .d _, trivial⟩⟩, trivial⟩)
      refine NWp.opsJ ⟨tab [(0, .ptr 0 0 0), (1, .d (.int .i64 a1)), (5, .d (.int .i64 (orI .i64 i1 q12))), (6, .d (.int .i64 i2)), (7, .d (.str r9.1)), (8, .d (.int .i64 i2)), (28, .d (.bool (decide (b11 < 128))))], stab [(0, .var [.d (.str r9.2.s), .d (.bool r9.2.bad)])], 1⟩ ?_ ?_
      · refine step (v := .d (.str r9.1)) rfl ?_
        refine step (v := .d (.int .u8 b11)) (st_idxS hb11 rfl rfl) ?_
        refine step (v := .d (.bool (decide (b11 < 128)))) rfl ?_
        exact RunOps.nil' (Norm.mk [0] (by decide) (by decide) (by decide) ⟨.ptr 0 _ _ (show 0 < 1 by decide), .d _, .d _, .d _, .d _, .d _, .d _, trivial⟩ ⟨⟨show 0 < 1 by decide, _, rfl, .vars ⟨.d _, .d _, trivial⟩⟩, trivial⟩)
      by_cases hc13 : decide (b11 < 128) = true
      · replace h := iteT hc13 h
        refine NWp.condT (t := decide (b11 < 128)) rfl hc13 ?_
        refine NWp.opsJ ⟨tab [(5, .d (.int .i64 (orI .i64 i1 q12)))], stab [(0, .var [.d (.str ((if decide ((orI .i64 i1 q12) > a1) then (save_reader.mk r9.2.s true) else (if decide (i2 > 0) then (save_reader.mk r9.2.s (b11 == 0)) else (save_reader.mk r9.2.s false))).s)), .d (.bool ((if decide ((orI .i64 i1 q12) > a1) then (save_reader.mk r9.2.s true) else (if decide (i2 > 0) then (save_reader.mk r9.2.s (b11 == 0)) else (save_reader.mk r9.2.s false))).bad))])], 1⟩ ?_ ?_
        · refine step (v := .ptr 0 0 0) rfl ?_
          refine step (v := .d (.int .i64 (orI .i64 i1 q12))) rfl ?_
          refine step (v := .d (.int .i64 a1)) rfl ?_
          refine step (v := .d (.bool (decide ((orI .i64 i1 q12) > a1)))) rfl ?_
          refine step (v := .d (.bool (decide ((orI .i64 i1 q12) > a1)))) rfl ?_
          by_cases hg14 : decide ((orI .i64 i1 q12) > a1) = true
          · refine stepX (c := decide ((orI .i64 i1 q12) > a1)) rfl (by rw [hg14]; decide) ?_
            refine stepX (c := decide ((orI .i64 i1 q12) > a1)) rfl (by rw [hg14]; decide) ?_
            refine stepX (c := decide ((orI .i64 i1 q12) > a1)) rfl (by rw [hg14]; decide) ?_
            refine stepXX rfl ?_
            refine stepXX rfl ?_
            refine stepXX rfl ?_
            refine stepX (c := decide ((orI .i64 i1 q12) > a1)) rfl (by rw [hg14]; decide) ?_
            refine step (v := .d (.bool true)) (st_pickT (b := decide ((orI .i64 i1 q12) > a1)) rfl hg14 rfl) ?_
            refine step (v := .ptr 0 0 0) rfl ?_
            refine step (v := .ptr 0 0 1) rfl ?_
            refine step (v := V.undef) (σ' := (upd (stab [(0, .var [.d (.str r9.2.s), .d (.bool r9.2.bad)])]) 0 (some (.var [.d (.str r9.2.s), .d (.bool true)])))) (n' := 1) rfl ?_
            exact RunOps.nil' (Norm.mk [0] (by decide) (by decide) (by decide) ⟨.d _, trivial⟩ ⟨⟨show 0 < 1 by decide, _, rfl, .vars ⟨.eq (by simp [hg14]), .eq (by simp [hg14]), trivial⟩⟩, trivial⟩)
          · refine stepG (c := decide ((orI .i64 i1 q12) > a1)) rfl (Bool.eq_false_iff.2 hg14) ?_
            refine step (v := .d (.int .i64 i2)) rfl ?_
            refine stepG (c := decide ((orI .i64 i1 q12) > a1)) rfl (Bool.eq_false_iff.2 hg14) ?_
            refine step (v := .d (.bool (decide (i2 > 0)))) rfl ?_
            refine stepG (c := decide ((orI .i64 i1 q12) > a1)) rfl (Bool.eq_false_iff.2 hg14) ?_
            refine step (v := .d (.bool (decide (i2 > 0)))) rfl ?_
            by_cases hg15 : decide (i2 > 0) = true
            · refine stepG (c := decide (i2 > 0)) rfl hg15 ?_
              refine step (v := .d (.str r9.1)) rfl ?_
              refine stepG (c := decide (i2 > 0)) rfl hg15 ?_
              refine step (v := .d (.int .u8 b11)) (st_idxS hb11 rfl rfl) ?_
              refine stepG (c := decide (i2 > 0)) rfl hg15 ?_
              refine step (v := .d (.bool (b11 == 0))) rfl ?_
              refine stepG (c := decide ((orI .i64 i1 q12) > a1)) rfl (Bool.eq_false_iff.2 hg14) ?_
              refine step (v := .d (.bool (b11 == 0))) (st_pickT (b := decide (i2 > 0)) rfl hg15 rfl) ?_
              refine step (v := .d (.bool (b11 == 0))) (st_pickF (b := decide ((orI .i64 i1 q12) > a1)) rfl hg14 rfl) ?_
              refine step (v := .ptr 0 0 0) rfl ?_
              refine step (v := .ptr 0 0 1) rfl ?_
              refine step (v := V.undef) (σ' := (upd (stab [(0, .var [.d (.str r9.2.s), .d (.bool r9.2.bad)])]) 0 (some (.var [.d (.str r9.2.s), .d (.bool (b11 == 0))])))) (n' := 1) rfl ?_
              exact RunOps.nil' (Norm.mk [0] (by decide) (by decide) (by decide) ⟨.d _, trivial⟩ ⟨⟨show 0 < 1 by decide, _, rfl, .vars ⟨.eq (by simp [hg14, hg15]), .eq (by simp [hg14, hg15]), trivial⟩⟩, trivial⟩)
            · refine stepX (c := decide (i2 > 0)) rfl hg15 ?_
              refine stepX (c := decide (i2 > 0)) rfl hg15 ?_
              refine stepX (c := decide (i2 > 0)) rfl hg15 ?_
              refine stepG (c := decide ((orI .i64 i1 q12) > a1)) rfl (Bool.eq_false_iff.2 hg14) ?_
              refine step (v := .d (.bool false)) (st_pickF (b := decide (i2 > 0)) rfl hg15 rfl) ?_
              refine step (v := .d (.bool false)) (st_pickF (b := decide ((orI .i64 i1 q12) > a1)) rfl hg14 rfl) ?_
              refine step (v := .ptr 0 0 0) rfl ?_
              refine step (v := .ptr 0 0 1) rfl ?_
              refine step (v := V.undef) (σ' := (upd (stab [(0, .var [.d (.str r9.2.s), .d (.bool r9.2.bad)])]) 0 (some (.var [.d (.str r9.2.s), .d (.bool false)])))) (n' := 1) rfl ?_
              exact RunOps.nil' (Norm.mk [0] (by decide) (by decide) (by decide) ⟨.d _, trivial⟩ ⟨⟨show 0 < 1 by decide, _, rfl, .vars ⟨.eq (by simp [hg14, hg15]), .eq (by simp [hg14, hg15]), trivial⟩⟩, trivial⟩)
        refine NWp.opsJ ⟨tab [(4, .d (.int .i64 (orI .i64 i1 q12)))], stab [(0, .var [.d (.str ((if decide ((orI .i64 i1 q12) > a1) then (save_reader.mk r9.2.s true) else (if decide (i2 > 0) then (save_reader.mk r9.2.s (b11 == 0)) else (save_reader.mk r9.2.s false))).s)), .d (.bool ((if decide ((orI .i64 i1 q12) > a1) then (save_reader.mk r9.2.s true) else (if decide (i2 > 0) then (save_reader.mk r9.2.s (b11 == 0)) else (save_reader.mk r9.2.s false))).bad))])], 1⟩ ?_ ?_
        · refine step (v := .d (.int .i64 (orI .i64 i1 q12))) rfl ?_
          refine step (v := .d (.int .i64 (orI .i64 i1 q12))) rfl ?_
          exact RunOps.nil' (Norm.mk [0] (by decide) (by decide) (by decide) ⟨.d _, trivial⟩ ⟨⟨show 0 < 1 by decide, _, rfl, .vars ⟨.d _, .d _, trivial⟩⟩, trivial⟩)
        obtain ⟨r16, kr16, hr⟩ := mapE (o := some (orI .i64 i1 q12, (if decide ((orI .i64 i1 q12) > a1) then (save_reader.mk r9.2.s true) else (if decide (i2 > 0) then (save_reader.mk r9.2.s (b11 == 0)) else (save_reader.mk r9.2.s false))))) (g := Br.ret) h
        subst hr
        have h := kr16
        have hh := Option.some.inj h
        subst hh
        refine NWp.ret ?_
        refine And.intro (fun hn => nomatch hn) ?_
        intro hq
        have hq := hq.symm
        subst hq
        exact ⟨.inr rfl, _, rfl, rfl, AllS.sub ⟨rfl, trivial⟩, rfl⟩
      · replace h := iteF hc13 h
        refine NWp.condF (t := decide (b11 < 128)) rfl hc13 ?_
        refine NWp.skip ?_
        have hh := Option.some.inj h
        subst hh
        refine NWp.opsE ⟨tab [(0, .ptr 0 0 0), (1, .d (.int .i64 a1)), (5, .d (.int .i64 (orI .i64 i1 q12))), (8, .d (.int .i64 (i2 + 1)))], stab [(0, .var [.d (.str r9.2.s), .d (.bool r9.2.bad)])], 1⟩ ?_ ?_
        · refine step (v := .d (.int .i64 (i2 + 1))) (st_inc (inc_ok hinv6 hgo5 (by decide)) rfl rfl) ?_
          refine step (v := .d (.int .i64 (i2 + 1))) rfl ?_
          exact RunOps.nil' (Norm.mk [0] (by decide) (by decide) (by decide) ⟨.ptr 0 _ _ (show 0 < 1 by decide), .d _, .d _, .d _, trivial⟩ ⟨⟨show 0 < 1 by decide, _, rfl, .vars ⟨.d _, .d _, trivial⟩⟩, trivial⟩)
        exact And.intro rfl rfl
  · rintro i2 ⟨i1, y3⟩ hinv6 hgo5
    show NWp _ _ _ _ _ ⟨tab [(0, .ptr 0 0 0), (1, .d (.int .i64 a1)), (5, .d (.int .i64 i1)), (8, .d (.int .i64 i2))], stab [(0, .var [.d (.str y3.s), .d (.bool y3.bad)])], 1⟩
    have hc7 : ¬ (decide (i2 < 5) = true) := fun hq => hgo5 (of_decide_eq_true hq)
    refine NWp.opsJ ⟨tab [(0, .ptr 0 0 0), (1, .d (.int .i64 a1)), (5, .d (.int .i64 i1)), (8, .d (.int .i64 i2)), (9, .d (.bool (decide (i2 < 5))))], stab [(0, .var [.d (.str y3.s), .d (.bool y3.bad)])], 1⟩ ?_ ?_
    · refine step (v := .d (.bool (decide (i2 < 5)))) rfl ?_
      exact RunOps.nil' (Norm.mk [0] (by decide) (by decide) (by decide) ⟨.ptr 0 _ _ (show 0 < 1 by decide), .d _, .d _, .d _, .d _, trivial⟩ ⟨⟨show 0 < 1 by decide, _, rfl, .vars ⟨.d _, .d _, trivial⟩⟩, trivial⟩)
    refine NWp.seq ?_
    refine NWp.condF (t := decide (i2 < 5)) rfl hc7 ?_
    refine NWp.norm (s0 := ⟨tab [(0, .ptr 0 0 0)], stab [(0, .var [.d (.str y3.s), .d (.bool y3.bad)])], 1⟩) (Norm.mk [0] (by decide) (by decide) (by decide) ⟨.ptr 0 _ _ (show 0 < 1 by decide), trivial⟩ ⟨⟨show 0 < 1 by decide, _, rfl, .vars ⟨.d _, .d _, trivial⟩⟩, trivial⟩) ?_
    refine NWp.exit ?_
    exact And.intro rfl rfl
  · intro r' hq
    subst hq
    exact Option.some.inj h
  rintro ⟨z16, z17⟩ rfl
  refine NWp.opsJ ⟨tab [], stab [(0, .var [.d (.str z17.s), .d (.bool true)])], 1⟩ ?_ ?_
  · refine step (v := .ptr 0 0 0) rfl ?_
    refine step (v := .ptr 0 0 0) rfl ?_
    refine step (v := .ptr 0 0 1) rfl ?_
    refine step (v := V.undef) (σ' := (upd (stab [(0, .var [.d (.str z17.s), .d (.bool z17.bad)])]) 0 (some (.var [.d (.str z17.s), .d (.bool true)])))) (n' := 1) rfl ?_
    exact RunOps.nil' (Norm.mk [0] (by decide) (by decide) (by decide) trivial ⟨⟨show 0 < 1 by decide, _, rfl, .vars ⟨.d _, .d _, trivial⟩⟩, trivial⟩)
  refine NWp.opsJ ⟨tab [(4, .d (.int .i64 0))], stab [(0, .var [.d (.str z17.s), .d (.bool true)])], 1⟩ ?_ ?_
  · refine step (v := .d (.int .i64 0)) rfl ?_
    exact RunOps.nil' (Norm.mk [0] (by decide) (by decide) (by decide) ⟨.d _, trivial⟩ ⟨⟨show 0 < 1 by decide, _, rfl, .vars ⟨.d _, .d _, trivial⟩⟩, trivial⟩)
  have hh := Option.some.inj h
  subst hh
  refine NWp.ret ?_
  exact ⟨.inr rfl, _, rfl, rfl, AllS.sub ⟨rfl, trivial⟩, rfl⟩

theorem c_save_reader_deed {a0 : save_reader} {r : (api_Deed × save_reader)} (h : save_reader_deed a0 = some r) : SCall Try.prog 55 [.ptr 0 0 0] (stab [(0, .var [.d (.str a0.s), .d (.bool a0.bad)])]) 1 (.d (eapi_Deed r.1)) (stab [(0, .var [.d (.str r.2.s), .d (.bool r.2.bad)])]) 2 := by
  refine SCall.introN (bl := [(0, .var [.d (.str a0.s), .d (.bool a0.bad)])]) (bl' := [(0, .var [.d (.str r.2.s), .d (.bool r.2.bad)])]) ok55 (show 1 ≤ 48 by decide) rfl ?_
  refine NWp.norm (s0 := ⟨tab [(0, .ptr 0 0 0)], stab [(0, .var [.d (.str a0.s), .d (.bool a0.bad)])], 1⟩) (Norm.mk [0] (by decide) (by decide) (by decide) ⟨.ptr 0 _ _ (show 0 < 1 by decide), trivial⟩ ⟨⟨show 0 < 1 by decide, _, rfl, .vars ⟨.d _, .d _, trivial⟩⟩, trivial⟩) ?_
  refine NWp.opsJ ⟨tab [(0, .ptr 0 0 0), (2, .ptr 1 0 0)], stab [(0, .var [.d (.str a0.s), .d (.bool a0.bad)]), (1, .var [.d (.int .i64 0), .d (.int .i64 0), .d (.bool false), .d (.int .u16 0), .d (.int .u16 0), .d (.int .u16 0), .d (.int .u16 0), .d (.int .u16 0), .d (.int .u16 0), .d (.int .u16 0), .d (.int .u16 0), .d (.str (⟨#[]⟩ : ByteArray))])], 2⟩ ?_ ?_
  · refine step (v := .ptr 1 0 0) (σ' := (upd (stab [(0, .var [.d (.str a0.s), .d (.bool a0.bad)])]) 1 (some (.var [.d (.int .i64 0), .d (.int .i64 0), .d (.bool false), .d (.int .u16 0), .d (.int .u16 0), .d (.int .u16 0), .d (.int .u16 0), .d (.int .u16 0), .d (.int .u16 0), .d (.int .u16 0), .d (.int .u16 0), .d (.str (⟨#[]⟩ : ByteArray))])))) (n' := 2) rfl ?_
    exact RunOps.nil' (Norm.mk [0, 1] (by decide) (by decide) (by decide) ⟨.ptr 0 _ _ (show 0 < 2 by decide), .ptr 1 _ _ (show 1 < 2 by decide), trivial⟩ ⟨⟨show 0 < 2 by decide, _, rfl, .vars ⟨.d _, .d _, trivial⟩⟩, ⟨show 1 < 2 by decide, _, rfl, .vars ⟨.d _, .d _, .d _, .d _, .d _, .d _, .d _, .d _, .d _, .d _, .d _, .d _, trivial⟩⟩, trivial⟩)
  obtain ⟨r1, hr1, h⟩ := bindE h
  obtain ⟨r2, hr2, h⟩ := bindE h
  refine NWp.opsJ ⟨tab [(0, .ptr 0 0 0), (2, .ptr 1 0 0), (3, .ptr 2 0 0)], stab [(0, .var [.d (.str r2.2.s), .d (.bool r2.2.bad)]), (1, .var [.d (.int .i64 0), .d (.int .i64 0), .d (.bool false), .d (.int .u16 0), .d (.int .u16 0), .d (.int .u16 0), .d (.int .u16 0), .d (.int .u16 0), .d (.int .u16 0), .d (.int .u16 0), .d (.int .u16 0), .d (.str (⟨#[]⟩ : ByteArray))]), (2, .var [.d (.int .i64 r1.1), .d (.int .i64 r2.1), .d (.bool false), .d (.int .u16 0), .d (.int .u16 0), .d (.int .u16 0), .d (.int .u16 0), .d (.int .u16 0), .d (.int .u16 0), .d (.int .u16 0), .d (.int .u16 0), .d (.str (⟨#[]⟩ : ByteArray))])], 3⟩ ?_ ?_
  · refine step (v := .ptr 0 0 0) rfl ?_
    refine stepW (v := .d (.int .i64 r1.1)) (σ' := (upd (upd (stab [(0, .var [.d (.str a0.s), .d (.bool a0.bad)]), (1, .var [.d (.int .i64 0), .d (.int .i64 0), .d (.bool false), .d (.int .u16 0), .d (.int .u16 0), .d (.int .u16 0), .d (.int .u16 0), .d (.int .u16 0), .d (.int .u16 0), .d (.int .u16 0), .d (.int .u16 0), .d (.str (⟨#[]⟩ : ByteArray))])]) 0 none) 0 (some (.var [.d (.str r1.2.s), .d (.bool r1.2.bad)])))) (n' := 2) (SCall.lift [0] (c_save_reader_number hr1) (show 1 ≤ 1 by decide) (by decide) (show ∀ i ∈ [0], i < 2 by decide) (dom_c (show 0 < 1 by decide) dom_n) (VNs.c (.ptr 0 _ _ (show 0 < 1 by decide)) (VNs.c (.d _) VNs.nil0)) (SN.c (show 0 < 1 by decide) rfl (.vars (VNs.c (.d _) (VNs.c (.d _) VNs.nil0))) SN.nil0)) (show 2 ≤ 2 by decide) ?_
    refine step (v := .ptr 0 0 0) rfl ?_
    refine stepW (v := .d (.int .i64 r2.1)) (σ' := (upd (upd (upd (upd (stab [(0, .var [.d (.str a0.s), .d (.bool a0.bad)]), (1, .var [.d (.int .i64 0), .d (.int .i64 0), .d (.bool false), .d (.int .u16 0), .d (.int .u16 0), .d (.int .u16 0), .d (.int .u16 0), .d (.int .u16 0), .d (.int .u16 0), .d (.int .u16 0), .d (.int .u16 0), .d (.str (⟨#[]⟩ : ByteArray))])]) 0 none) 0 (some (.var [.d (.str r1.2.s), .d (.bool r1.2.bad)]))) 0 none) 0 (some (.var [.d (.str r2.2.s), .d (.bool r2.2.bad)])))) (n' := 2) (SCall.lift [0] (c_save_reader_number hr2) (show 1 ≤ 1 by decide) (by decide) (show ∀ i ∈ [0], i < 2 by decide) (dom_c (show 0 < 1 by decide) dom_n) (VNs.c (.ptr 0 _ _ (show 0 < 1 by decide)) (VNs.c (.d _) VNs.nil0)) (SN.c (show 0 < 1 by decide) rfl (.vars (VNs.c (.d _) (VNs.c (.d _) VNs.nil0))) SN.nil0)) (show 2 ≤ 2 by decide) ?_
    refine step (v := .d (eapi_Deed (api_Deed.mk r1.1 r2.1 false (A8.mk 0 0 0 0 0 0 0 0) (⟨#[]⟩ : ByteArray)))) (st_build (ds := [.int .i64 r1.1, .int .i64 r2.1, .bool false, .int .u16 0, .int .u16 0, .int .u16 0, .int .u16 0, .int .u16 0, .int .u16 0, .int .u16 0, .int .u16 0, .str (⟨#[]⟩ : ByteArray)]) rfl) ?_
    refine step (v := .ptr 2 0 0) (σ' := (upd (upd (upd (upd (upd (stab [(0, .var [.d (.str a0.s), .d (.bool a0.bad)]), (1, .var [.d (.int .i64 0), .d (.int .i64 0), .d (.bool false), .d (.int .u16 0), .d (.int .u16 0), .d (.int .u16 0), .d (.int .u16 0), .d (.int .u16 0), .d (.int .u16 0), .d (.int .u16 0), .d (.int .u16 0), .d (.str (⟨#[]⟩ : ByteArray))])]) 0 none) 0 (some (.var [.d (.str r1.2.s), .d (.bool r1.2.bad)]))) 0 none) 0 (some (.var [.d (.str r2.2.s), .d (.bool r2.2.bad)]))) 2 (some (.var [.d (.int .i64 0), .d (.int .i64 0), .d (.bool false), .d (.int .u16 0), .d (.int .u16 0), .d (.int .u16 0), .d (.int .u16 0), .d (.int .u16 0), .d (.int .u16 0), .d (.int .u16 0), .d (.int .u16 0), .d (.str (⟨#[]⟩ : ByteArray))])))) (n' := 3) rfl ?_
    refine step (v := V.undef) (σ' := (upd (upd (upd (upd (upd (upd (stab [(0, .var [.d (.str a0.s), .d (.bool a0.bad)]), (1, .var [.d (.int .i64 0), .d (.int .i64 0), .d (.bool false), .d (.int .u16 0), .d (.int .u16 0), .d (.int .u16 0), .d (.int .u16 0), .d (.int .u16 0), .d (.int .u16 0), .d (.int .u16 0), .d (.int .u16 0), .d (.str (⟨#[]⟩ : ByteArray))])]) 0 none) 0 (some (.var [.d (.str r1.2.s), .d (.bool r1.2.bad)]))) 0 none) 0 (some (.var [.d (.str r2.2.s), .d (.bool r2.2.bad)]))) 2 (some (.var [.d (.int .i64 0), .d (.int .i64 0), .d (.bool false), .d (.int .u16 0), .d (.int .u16 0), .d (.int .u16 0), .d (.int .u16 0), .d (.int .u16 0), .d (.int .u16 0), .d (.int .u16 0), .d (.int .u16 0), .d (.str (⟨#[]⟩ : ByteArray))]))) 2 (some (.var [.d (.int .i64 r1.1), .d (.int .i64 r2.1), .d (.bool false), .d (.int .u16 0), .d (.int .u16 0), .d (.int .u16 0), .d (.int .u16 0), .d (.int .u16 0), .d (.int .u16 0), .d (.int .u16 0), .d (.int .u16 0), .d (.str (⟨#[]⟩ : ByteArray))])))) (n' := 3) rfl ?_
    exact RunOps.nil' (Norm.mk [0, 1, 2] (by decide) (by decide) (by decide) ⟨.ptr 0 _ _ (show 0 < 3 by decide), .ptr 1 _ _ (show 1 < 3 by decide), .ptr 2 _ _ (show 2 < 3 by decide), trivial⟩ ⟨⟨show 0 < 3 by decide, _, rfl, .vars ⟨.d _, .d _, trivial⟩⟩, ⟨show 1 < 3 by decide, _, rfl, .vars ⟨.d _, .d _, .d _, .d _, .d _, .d _, .d _, .d _, .d _, .d _, .d _, .d _, trivial⟩⟩, ⟨show 2 < 3 by decide, _, rfl, .vars ⟨.d _, .d _, .d _, .d _, .d _, .d _, .d _, .d _, .d _, .d _, .d _, .d _, trivial⟩⟩, trivial⟩)
  obtain ⟨r3, hr3, h⟩ := bindE h
  refine NWp.opsJ ⟨tab [(0, .ptr 0 0 0), (2, .ptr 1 0 0), (3, .ptr 2 0 0), (4, .ptr 3 0 0)], stab [(0, .var [.d (.str r2.2.s), .d (.bool r2.2.bad)]), (1, .var [.d (.int .i64 0), .d (.int .i64 0), .d (.bool false), .d (.int .u16 0), .d (.int .u16 0), .d (.int .u16 0), .d (.int .u16 0), .d (.int .u16 0), .d (.int .u16 0), .d (.int .u16 0), .d (.int .u16 0), .d (.str (⟨#[]⟩ : ByteArray))]), (2, .var [.d (.int .i64 r1.1), .d (.int .i64 r2.1), .d (.bool false), .d (.int .u16 0), .d (.int .u16 0), .d (.int .u16 0), .d (.int .u16 0), .d (.int .u16 0), .d (.int .u16 0), .d (.int .u16 0), .d (.int .u16 0), .d (.str (⟨#[]⟩ : ByteArray))]), (3, .var [.d (.bool r3.packet), .d (.bool r3.raw), .d (.bool r3.back)])], 4⟩ ?_ ?_
  · refine step (v := .ptr 2 0 0) rfl ?_
    refine step (v := .d (.int .i64 r1.1)) rfl ?_
    refine stepC (r := esave_tells r3) (ArgsOk.dt ArgsOk.nil') (c_save_of hr3) ?_
    refine step (v := .ptr 3 0 0) (σ' := (upd (stab [(0, .var [.d (.str r2.2.s), .d (.bool r2.2.bad)]), (1, .var [.d (.int .i64 0), .d (.int .i64 0), .d (.bool false), .d (.int .u16 0), .d (.int .u16 0), .d (.int .u16 0), .d (.int .u16 0), .d (.int .u16 0), .d (.int .u16 0), .d (.int .u16 0), .d (.int .u16 0), .d (.str (⟨#[]⟩ : ByteArray))]), (2, .var [.d (.int .i64 r1.1), .d (.int .i64 r2.1), .d (.bool false), .d (.int .u16 0), .d (.int .u16 0), .d (.int .u16 0), .d (.int .u16 0), .d (.int .u16 0), .d (.int .u16 0), .d (.int .u16 0), .d (.int .u16 0), .d (.str (⟨#[]⟩ : ByteArray))])]) 3 (some (.var [.d (.bool false), .d (.bool false), .d (.bool false)])))) (n' := 4) rfl ?_
    refine step (v := V.undef) (σ' := (upd (upd (stab [(0, .var [.d (.str r2.2.s), .d (.bool r2.2.bad)]), (1, .var [.d (.int .i64 0), .d (.int .i64 0), .d (.bool false), .d (.int .u16 0), .d (.int .u16 0), .d (.int .u16 0), .d (.int .u16 0), .d (.int .u16 0), .d (.int .u16 0), .d (.int .u16 0), .d (.int .u16 0), .d (.str (⟨#[]⟩ : ByteArray))]), (2, .var [.d (.int .i64 r1.1), .d (.int .i64 r2.1), .d (.bool false), .d (.int .u16 0), .d (.int .u16 0), .d (.int .u16 0), .d (.int .u16 0), .d (.int .u16 0), .d (.int .u16 0), .d (.int .u16 0), .d (.int .u16 0), .d (.str (⟨#[]⟩ : ByteArray))])]) 3 (some (.var [.d (.bool false), .d (.bool false), .d (.bool false)]))) 3 (some (.var [.d (.bool r3.packet), .d (.bool r3.raw), .d (.bool r3.back)])))) (n' := 4) rfl ?_
    exact RunOps.nil' (Norm.mk [0, 1, 2, 3] (by decide) (by decide) (by decide) ⟨.ptr 0 _ _ (show 0 < 4 by decide), .ptr 1 _ _ (show 1 < 4 by decide), .ptr 2 _ _ (show 2 < 4 by decide), .ptr 3 _ _ (show 3 < 4 by decide), trivial⟩ ⟨⟨show 0 < 4 by decide, _, rfl, .vars ⟨.d _, .d _, trivial⟩⟩, ⟨show 1 < 4 by decide, _, rfl, .vars ⟨.d _, .d _, .d _, .d _, .d _, .d _, .d _, .d _, .d _, .d _, .d _, .d _, trivial⟩⟩, ⟨show 2 < 4 by decide, _, rfl, .vars ⟨.d _, .d _, .d _, .d _, .d _, .d _, .d _, .d _, .d _, .d _, .d _, .d _, trivial⟩⟩, ⟨show 3 < 4 by decide, _, rfl, .vars ⟨.d _, .d _, .d _, trivial⟩⟩, trivial⟩)
  obtain ⟨q27, hv, h⟩ := bindE h
  obtain ⟨y25, y26⟩ := q27
  refine NWp.seqN ⟨tab [(2, .ptr 1 0 0), (3, .ptr 2 0 0)], stab [(0, .var [.d (.str y25.s), .d (.bool y25.bad)]), (1, .var [.d (.int .i64 0), .d (.int .i64 0), .d (.bool false), .d (.int .u16 0), .d (.int .u16 0), .d (.int .u16 0), .d (.int .u16 0), .d (.int .u16 0), .d (.int .u16 0), .d (.int .u16 0), .d (.int .u16 0), .d (.str (⟨#[]⟩ : ByteArray))]), (2, .var [.d (.int .i64 y26.What), .d (.int .i64 y26.N), .d (.bool y26.Back), .d (.int .u16 y26.P.a0), .d (.int .u16 y26.P.a1), .d (.int .u16 y26.P.a2), .d (.int .u16 y26.P.a3), .d (.int .u16 y26.P.a4), .d (.int .u16 y26.P.a5), .d (.int .u16 y26.P.a6), .d (.int .u16 y26.P.a7), .d (.str y26.Raw)])], 3⟩ ?_ ?_
  · replace h := hv
    refine NWp.block ?_
    refine NWp.opsJ ⟨tab [(0, .ptr 0 0 0), (2, .ptr 1 0 0), (3, .ptr 2 0 0), (4, .ptr 3 0 0), (14, .d (.bool r2.2.bad))], stab [(0, .var [.d (.str r2.2.s), .d (.bool r2.2.bad)]), (1, .var [.d (.int .i64 0), .d (.int .i64 0), .d (.bool false), .d (.int .u16 0), .d (.int .u16 0), .d (.int .u16 0), .d (.int .u16 0), .d (.int .u16 0), .d (.int .u16 0), .d (.int .u16 0), .d (.int .u16 0), .d (.str (⟨#[]⟩ : ByteArray))]), (2, .var [.d (.int .i64 r1.1), .d (.int .i64 r2.1), .d (.bool false), .d (.int .u16 0), .d (.int .u16 0), .d (.int .u16 0), .d (.int .u16 0), .d (.int .u16 0), .d (.int .u16 0), .d (.int .u16 0), .d (.int .u16 0), .d (.str (⟨#[]⟩ : ByteArray))]), (3, .var [.d (.bool r3.packet), .d (.bool r3.raw), .d (.bool r3.back)])], 4⟩ ?_ ?_
    · refine step (v := .ptr 0 0 0) rfl ?_
      refine step (v := .ptr 0 0 0) rfl ?_
      refine step (v := .ptr 0 0 1) rfl ?_
      refine step (v := .d (.bool r2.2.bad)) rfl ?_
      refine step (v := .d (.bool r2.2.bad)) rfl ?_
      exact RunOps.nil' (Norm.mk [0, 1, 2, 3] (by decide) (by decide) (by decide) ⟨.ptr 0 _ _ (show 0 < 4 by decide), .ptr 1 _ _ (show 1 < 4 by decide), .ptr 2 _ _ (show 2 < 4 by decide), .ptr 3 _ _ (show 3 < 4 by decide), .d _, trivial⟩ ⟨⟨show 0 < 4 by decide, _, rfl, .vars ⟨.d _, .d _, trivial⟩⟩, ⟨show 1 < 4 by decide, _, rfl, .vars ⟨.d _, .d _, .d _, .d _, .d _, .d _, .d _, .d _, .d _, .d _, .d _, .d _, trivial⟩⟩, ⟨show 2 < 4 by decide, _, rfl, .vars ⟨.d _, .d _, .d _, .d _, .d _, .d _, .d _, .d _, .d _, .d _, .d _, .d _, trivial⟩⟩, ⟨show 3 < 4 by decide, _, rfl, .vars ⟨.d _, .d _, .d _, trivial⟩⟩, trivial⟩)
    by_cases hc4 : r2.2.bad = true
    · replace h := iteT hc4 h
      refine NWp.condT (t := r2.2.bad) rfl hc4 ?_
      have hh := Option.some.inj h
      obtain ⟨he0, ht0⟩ := Prod.mk.inj hh
      subst he0
      subst ht0
      refine NWp.norm (s0 := ⟨tab [(2, .ptr 1 0 0), (3, .ptr 2 0 0)], stab [(0, .var [.d (.str r2.2.s), .d (.bool r2.2.bad)]), (1, .var [.d (.int .i64 0), .d (.int .i64 0), .d (.bool false), .d (.int .u16 0), .d (.int .u16 0), .d (.int .u16 0), .d (.int .u16 0), .d (.int .u16 0), .d (.int .u16 0), .d (.int .u16 0), .d (.int .u16 0), .d (.str (⟨#[]⟩ : ByteArray))]), (2, .var [.d (.int .i64 ((api_Deed.mk r1.1 r2.1 false (A8.mk 0 0 0 0 0 0 0 0) (⟨#[]⟩ : ByteArray)).What)), .d (.int .i64 ((api_Deed.mk r1.1 r2.1 false (A8.mk 0 0 0 0 0 0 0 0) (⟨#[]⟩ : ByteArray)).N)), .d (.bool ((api_Deed.mk r1.1 r2.1 false (A8.mk 0 0 0 0 0 0 0 0) (⟨#[]⟩ : ByteArray)).Back)), .d (.int .u16 ((api_Deed.mk r1.1 r2.1 false (A8.mk 0 0 0 0 0 0 0 0) (⟨#[]⟩ : ByteArray)).P.a0)), .d (.int .u16 ((api_Deed.mk r1.1 r2.1 false (A8.mk 0 0 0 0 0 0 0 0) (⟨#[]⟩ : ByteArray)).P.a1)), .d (.int .u16 ((api_Deed.mk r1.1 r2.1 false (A8.mk 0 0 0 0 0 0 0 0) (⟨#[]⟩ : ByteArray)).P.a2)), .d (.int .u16 ((api_Deed.mk r1.1 r2.1 false (A8.mk 0 0 0 0 0 0 0 0) (⟨#[]⟩ : ByteArray)).P.a3)), .d (.int .u16 ((api_Deed.mk r1.1 r2.1 false (A8.mk 0 0 0 0 0 0 0 0) (⟨#[]⟩ : ByteArray)).P.a4)), .d (.int .u16 ((api_Deed.mk r1.1 r2.1 false (A8.mk 0 0 0 0 0 0 0 0) (⟨#[]⟩ : ByteArray)).P.a5)), .d (.int .u16 ((api_Deed.mk r1.1 r2.1 false (A8.mk 0 0 0 0 0 0 0 0) (⟨#[]⟩ : ByteArray)).P.a6)), .d (.int .u16 ((api_Deed.mk r1.1 r2.1 false (A8.mk 0 0 0 0 0 0 0 0) (⟨#[]⟩ : ByteArray)).P.a7)), .d (.str ((api_Deed.mk r1.1 r2.1 false (A8.mk 0 0 0 0 0 0 0 0) (⟨#[]⟩ : ByteArray)).Raw))])], 3⟩) (Norm.mk [0, 1, 2] (by decide) (by decide) (by decide) ⟨.ptr 1 _ _ (show 1 < 3 by decide), .ptr 2 _ _ (show 2 < 3 by decide), trivial⟩ ⟨⟨show 0 < 3 by decide, _, rfl, .vars ⟨.d _, .d _, trivial⟩⟩, ⟨show 1 < 3 by decide, _, rfl, .vars ⟨.d _, .d _, .d _, .d _, .d _, .d _, .d _, .d _, .d _, .d _, .d _, .d _, trivial⟩⟩, ⟨show 2 < 3 by decide, _, rfl, .vars ⟨.d _, .d _, .d _, .d _, .d _, .d _, .d _, .d _, .d _, .d _, .d _, .d _, trivial⟩⟩, trivial⟩) ?_
      refine NWp.skip ?_
      exact And.intro rfl rfl
    · replace h := iteF hc4 h
      refine NWp.condF (t := r2.2.bad) rfl hc4 ?_
      refine NWp.opsJ ⟨tab [(0, .ptr 0 0 0), (2, .ptr 1 0 0), (3, .ptr 2 0 0), (4, .ptr 3 0 0), (19, .d (.bool r3.packet))], stab [(0, .var [.d (.str r2.2.s), .d (.bool r2.2.bad)]), (1, .var [.d (.int .i64 0), .d (.int .i64 0), .d (.bool false), .d (.int .u16 0), .d (.int .u16 0), .d (.int .u16 0), .d (.int .u16 0), .d (.int .u16 0), .d (.int .u16 0), .d (.int .u16 0), .d (.int .u16 0), .d (.str (⟨#[]⟩ : ByteArray))]), (2, .var [.d (.int .i64 r1.1), .d (.int .i64 r2.1), .d (.bool false), .d (.int .u16 0), .d (.int .u16 0), .d (.int .u16 0), .d (.int .u16 0), .d (.int .u16 0), .d (.int .u16 0), .d (.int .u16 0), .d (.int .u16 0), .d (.str (⟨#[]⟩ : ByteArray))]), (3, .var [.d (.bool r3.packet), .d (.bool r3.raw), .d (.bool r3.back)])], 4⟩ ?_ ?_
      · refine step (v := .ptr 3 0 0) rfl ?_
        refine step (v := .d (.bool r3.packet)) rfl ?_
        refine step (v := .d (.bool r3.packet)) rfl ?_
        exact RunOps.nil' (Norm.mk [0, 1, 2, 3] (by decide) (by decide) (by decide) ⟨.ptr 0 _ _ (show 0 < 4 by decide), .ptr 1 _ _ (show 1 < 4 by decide), .ptr 2 _ _ (show 2 < 4 by decide), .ptr 3 _ _ (show 3 < 4 by decide), .d _, trivial⟩ ⟨⟨show 0 < 4 by decide, _, rfl, .vars ⟨.d _, .d _, trivial⟩⟩, ⟨show 1 < 4 by decide, _, rfl, .vars ⟨.d _, .d _, .d _, .d _, .d _, .d _, .d _, .d _, .d _, .d _, .d _, .d _, trivial⟩⟩, ⟨show 2 < 4 by decide, _, rfl, .vars ⟨.d _, .d _, .d _, .d _, .d _, .d _, .d _, .d _, .d _, .d _, .d _, .d _, trivial⟩⟩, ⟨show 3 < 4 by decide, _, rfl, .vars ⟨.d _, .d _, .d _, trivial⟩⟩, trivial⟩)
      by_cases hc5 : r3.packet = true
      · replace h := iteT hc5 h
        refine NWp.condT (t := r3.packet) rfl hc5 ?_
        refine NWp.opsJ ⟨tab [(0, .ptr 0 0 0), (2, .ptr 1 0 0), (3, .ptr 2 0 0), (5, .d (.int .i64 2))], stab [(0, .var [.d (.str r2.2.s), .d (.bool r2.2.bad)]), (1, .var [.d (.int .i64 0), .d (.int .i64 0), .d (.bool false), .d (.int .u16 0), .d (.int .u16 0), .d (.int .u16 0), .d (.int .u16 0), .d (.int .u16 0), .d (.int .u16 0), .d (.int .u16 0), .d (.int .u16 0), .d (.str (⟨#[]⟩ : ByteArray))]), (2, .var [.d (.int .i64 r1.1), .d (.int .i64 r2.1), .d (.bool false), .d (.int .u16 0), .d (.int .u16 0), .d (.int .u16 0), .d (.int .u16 0), .d (.int .u16 0), .d (.int .u16 0), .d (.int .u16 0), .d (.int .u16 0), .d (.str (⟨#[]⟩ : ByteArray))])], 3⟩ ?_ ?_
        · refine step (v := .d (.int .i64 2)) rfl ?_
          exact RunOps.nil' (Norm.mk [0, 1, 2] (by decide) (by decide) (by decide) ⟨.ptr 0 _ _ (show 0 < 3 by decide), .ptr 1 _ _ (show 1 < 3 by decide), .ptr 2 _ _ (show 2 < 3 by decide), .d _, trivial⟩ ⟨⟨show 0 < 3 by decide, _, rfl, .vars ⟨.d _, .d _, trivial⟩⟩, ⟨show 1 < 3 by decide, _, rfl, .vars ⟨.d _, .d _, .d _, .d _, .d _, .d _, .d _, .d _, .d _, .d _, .d _, .d _, trivial⟩⟩, ⟨show 2 < 3 by decide, _, rfl, .vars ⟨.d _, .d _, .d _, .d _, .d _, .d _, .d _, .d _, .d _, .d _, .d _, .d _, trivial⟩⟩, trivial⟩)
        obtain ⟨q19, hl, h⟩ := bindE h
        obtain ⟨z17, z18⟩ := q19
        refine NWp.norm (s0 := ⟨tab [(0, .ptr 0 0 0), (2, .ptr 1 0 0), (3, .ptr 2 0 0), (5, .d (.int .i64 2))], stab [(0, .var [.d (.str r2.2.s), .d (.bool r2.2.bad)]), (1, .var [.d (.int .i64 0), .d (.int .i64 0), .d (.bool false), .d (.int .u16 0), .d (.int .u16 0), .d (.int .u16 0), .d (.int .u16 0), .d (.int .u16 0), .d (.int .u16 0), .d (.int .u16 0), .d (.int .u16 0), .d (.str (⟨#[]⟩ : ByteArray))]), (2, .var [.d (.int .i64 ((api_Deed.mk r1.1 r2.1 false (A8.mk 0 0 0 0 0 0 0 0) (⟨#[]⟩ : ByteArray)).What)), .d (.int .i64 ((api_Deed.mk r1.1 r2.1 false (A8.mk 0 0 0 0 0 0 0 0) (⟨#[]⟩ : ByteArray)).N)), .d (.bool ((api_Deed.mk r1.1 r2.1 false (A8.mk 0 0 0 0 0 0 0 0) (⟨#[]⟩ : ByteArray)).Back)), .d (.int .u16 ((api_Deed.mk r1.1 r2.1 false (A8.mk 0 0 0 0 0 0 0 0) (⟨#[]⟩ : ByteArray)).P.a0)), .d (.int .u16 ((api_Deed.mk r1.1 r2.1 false (A8.mk 0 0 0 0 0 0 0 0) (⟨#[]⟩ : ByteArray)).P.a1)), .d (.int .u16 ((api_Deed.mk r1.1 r2.1 false (A8.mk 0 0 0 0 0 0 0 0) (⟨#[]⟩ : ByteArray)).P.a2)), .d (.int .u16 ((api_Deed.mk r1.1 r2.1 false (A8.mk 0 0 0 0 0 0 0 0) (⟨#[]⟩ : ByteArray)).P.a3)), .d (.int .u16 ((api_Deed.mk r1.1 r2.1 false (A8.mk 0 0 0 0 0 0 0 0) (⟨#[]⟩ : ByteArray)).P.a4)), .d (.int .u16 ((api_Deed.mk r1.1 r2.1 false (A8.mk 0 0 0 0 0 0 0 0) (⟨#[]⟩ : ByteArray)).P.a5)), .d (.int .u16 ((api_Deed.mk r1.1 r2.1 false (A8.mk 0 0 0 0 0 0 0 0) (⟨#[]⟩ : ByteArray)).P.a6)), .d (.int .u16 ((api_Deed.mk r1.1 r2.1 false (A8.mk 0 0 0 0 0 0 0 0) (⟨#[]⟩ : ByteArray)).P.a7)), .d (.str ((api_Deed.mk r1.1 r2.1 false (A8.mk 0 0 0 0 0 0 0 0) (⟨#[]⟩ : ByteArray)).Raw))])], 3⟩) (Norm.mk [0, 1, 2] (by decide) (by decide) (by decide) ⟨.ptr 0 _ _ (show 0 < 3 by decide), .ptr 1 _ _ (show 1 < 3 by decide), .ptr 2 _ _ (show 2 < 3 by decide), .d _, trivial⟩ ⟨⟨show 0 < 3 by decide, _, rfl, .vars ⟨.d _, .d _, trivial⟩⟩, ⟨show 1 < 3 by decide, _, rfl, .vars ⟨.d _, .d _, .d _, .d _, .d _, .d _, .d _, .d _, .d _, .d _, .d _, .d _, trivial⟩⟩, ⟨show 2 < 3 by decide, _, rfl, .vars ⟨.d _, .d _, .d _, .d _, .d _, .d _, .d _, .d _, .d _, .d _, .d _, .d _, trivial⟩⟩, trivial⟩) ?_
        refine NWp.block ?_
        refine loop_forO (cntU 8) (fun (i6 : Int) (qq : (save_reader × api_Deed)) => ⟨tab [(0, .ptr 0 0 0), (2, .ptr 1 0 0), (3, .ptr 2 0 0), (5, .d (.int .i64 i6))], stab [(0, .var [.d (.str qq.1.s), .d (.bool qq.1.bad)]), (1, .var [.d (.int .i64 0), .d (.int .i64 0), .d (.bool false), .d (.int .u16 0), .d (.int .u16 0), .d (.int .u16 0), .d (.int .u16 0), .d (.int .u16 0), .d (.int .u16 0), .d (.int .u16 0), .d (.int .u16 0), .d (.str (⟨#[]⟩ : ByteArray))]), (2, .var [.d (.int .i64 qq.2.What), .d (.int .i64 qq.2.N), .d (.bool qq.2.Back), .d (.int .u16 qq.2.P.a0), .d (.int .u16 qq.2.P.a1), .d (.int .u16 qq.2.P.a2), .d (.int .u16 qq.2.P.a3), .d (.int .u16 qq.2.P.a4), .d (.int .u16 qq.2.P.a5), .d (.int .u16 qq.2.P.a6), .d (.int .u16 qq.2.P.a7), .d (.str qq.2.Raw)])], 3⟩) 1 (fun (qq : (save_reader × api_Deed)) => ⟨tab [(2, .ptr 1 0 0), (3, .ptr 2 0 0)], stab [(0, .var [.d (.str qq.1.s), .d (.bool qq.1.bad)]), (1, .var [.d (.int .i64 0), .d (.int .i64 0), .d (.bool false), .d (.int .u16 0), .d (.int .u16 0), .d (.int .u16 0), .d (.int .u16 0), .d (.int .u16 0), .d (.int .u16 0), .d (.int .u16 0), .d (.int .u16 0), .d (.str (⟨#[]⟩ : ByteArray))]), (2, .var [.d (.int .i64 qq.2.What), .d (.int .i64 qq.2.N), .d (.bool qq.2.Back), .d (.int .u16 qq.2.P.a0), .d (.int .u16 qq.2.P.a1), .d (.int .u16 qq.2.P.a2), .d (.int .u16 qq.2.P.a3), .d (.int .u16 qq.2.P.a4), .d (.int .u16 qq.2.P.a5), .d (.int .u16 qq.2.P.a6), .d (.int .u16 qq.2.P.a7), .d (.str qq.2.Raw)])], 3⟩) Low low_step hl (by unfold Low; omega) ?_ ?_ ?_
        · rintro i6 ⟨y7, y8⟩ xr13 hinv11 hgo10 h
          show NWp _ _ _ _ _ ⟨tab [(0, .ptr 0 0 0), (2, .ptr 1 0 0), (3, .ptr 2 0 0), (5, .d (.int .i64 i6))], stab [(0, .var [.d (.str y7.s), .d (.bool y7.bad)]), (1, .var [.d (.int .i64 0), .d (.int .i64 0), .d (.bool false), .d (.int .u16 0), .d (.int .u16 0), .d (.int .u16 0), .d (.int .u16 0), .d (.int .u16 0), .d (.int .u16 0), .d (.int .u16 0), .d (.int .u16 0), .d (.str (⟨#[]⟩ : ByteArray))]), (2, .var [.d (.int .i64 y8.What), .d (.int .i64 y8.N), .d (.bool y8.Back), .d (.int .u16 y8.P.a0), .d (.int .u16 y8.P.a1), .d (.int .u16 y8.P.a2), .d (.int .u16 y8.P.a3), .d (.int .u16 y8.P.a4), .d (.int .u16 y8.P.a5), .d (.int .u16 y8.P.a6), .d (.int .u16 y8.P.a7), .d (.str y8.Raw)])], 3⟩
          have hc12 : decide (i6 < 8) = true := decide_eq_true hgo10
          refine NWp.seq ?_
          refine NWp.opsJ ⟨tab [(0, .ptr 0 0 0), (2, .ptr 1 0 0), (3, .ptr 2 0 0), (5, .d (.int .i64 i6)), (23, .d (.bool (decide (i6 < 8))))], stab [(0, .var [.d (.str y7.s), .d (.bool y7.bad)]), (1, .var [.d (.int .i64 0), .d (.int .i64 0), .d (.bool false), .d (.int .u16 0), .d (.int .u16 0), .d (.int .u16 0), .d (.int .u16 0), .d (.int .u16 0), .d (.int .u16 0), .d (.int .u16 0), .d (.int .u16 0), .d (.str (⟨#[]⟩ : ByteArray))]), (2, .var [.d (.int .i64 y8.What), .d (.int .i64 y8.N), .d (.bool y8.Back), .d (.int .u16 y8.P.a0), .d (.int .u16 y8.P.a1), .d (.int .u16 y8.P.a2), .d (.int .u16 y8.P.a3), .d (.int .u16 y8.P.a4), .d (.int .u16 y8.P.a5), .d (.int .u16 y8.P.a6), .d (.int .u16 y8.P.a7), .d (.str y8.Raw)])], 3⟩ ?_ ?_
          · refine step (v := .d (.int .i64 i6)) rfl ?_
            refine step (v := .d (.bool (decide (i6 < 8)))) rfl ?_
            exact RunOps.nil' (Norm.mk [0, 1, 2] (by decide) (by decide) (by decide) ⟨.ptr 0 _ _ (show 0 < 3 by decide), .ptr 1 _ _ (show 1 < 3 by decide), .ptr 2 _ _ (show 2 < 3 by decide), .d _, .d _, trivial⟩ ⟨⟨show 0 < 3 by decide, _, rfl, .vars ⟨.d _, .d _, trivial⟩⟩, ⟨show 1 < 3 by decide, _, rfl, .vars ⟨.d _, .d _, .d _, .d _, .d _, .d _, .d _, .d _, .d _, .d _, .d _, .d _, trivial⟩⟩, ⟨show 2 < 3 by decide, _, rfl, .vars ⟨.d _, .d _, .d _, .d _, .d _, .d _, .d _, .d _, .d _, .d _, .d _, .d _, trivial⟩⟩, trivial⟩)
          refine NWp.condT (t := decide (i6 < 8)) rfl hc12 ?_
          refine NWp.skip ?_
          refine NWp.seq ?_
          refine NWp.block ?_
          obtain ⟨r14, hr14, h⟩ := bindE h
          obtain ⟨x15, hx15, h⟩ := bindE h
          obtain ⟨x16, hx16, h⟩ := bindE h
          refine NWp.opsE ⟨tab [(0, .ptr 0 0 0), (2, .ptr 1 0 0), (3, .ptr 2 0 0), (5, .d (.int .i64 i6))], stab [(0, .var [.d (.str r14.2.s), .d (.bool r14.2.bad)]), (1, .var [.d (.int .i64 0), .d (.int .i64 0), .d (.bool false), .d (.int .u16 0), .d (.int .u16 0), .d (.int .u16 0), .d (.int .u16 0), .d (.int .u16 0), .d (.int .u16 0), .d (.int .u16 0), .d (.int .u16 0), .d (.str (⟨#[]⟩ : ByteArray))]), (2, .var [.d (.int .i64 y8.What), .d (.int .i64 y8.N), .d (.bool y8.Back), .d (.int .u16 x16.a0), .d (.int .u16 x16.a1), .d (.int .u16 x16.a2), .d (.int .u16 x16.a3), .d (.int .u16 x16.a4), .d (.int .u16 x16.a5), .d (.int .u16 x16.a6), .d (.int .u16 x16.a7), .d (.str y8.Raw)])], 3⟩ ?_ ?_
          · refine step (v := .d (.int .i64 i6)) rfl ?_
            refine step (v := .ptr 0 0 0) rfl ?_
            refine stepW (v := .d (.int .i64 r14.1)) (σ' := (upd (upd (stab [(0, .var [.d (.str y7.s), .d (.bool y7.bad)]), (1, .var [.d (.int .i64 0), .d (.int .i64 0), .d (.bool false), .d (.int .u16 0), .d (.int .u16 0), .d (.int .u16 0), .d (.int .u16 0), .d (.int .u16 0), .d (.int .u16 0), .d (.int .u16 0), .d (.int .u16 0), .d (.str (⟨#[]⟩ : ByteArray))]), (2, .var [.d (.int .i64 y8.What), .d (.int .i64 y8.N), .d (.bool y8.Back), .d (.int .u16 y8.P.a0), .d (.int .u16 y8.P.a1), .d (.int .u16 y8.P.a2), .d (.int .u16 y8.P.a3), .d (.int .u16 y8.P.a4), .d (.int .u16 y8.P.a5), .d (.int .u16 y8.P.a6), .d (.int .u16 y8.P.a7), .d (.str y8.Raw)])]) 0 none) 0 (some (.var [.d (.str r14.2.s), .d (.bool r14.2.bad)])))) (n' := 3) (SCall.lift [0] (c_save_reader_number hr14) (show 1 ≤ 1 by decide) (by decide) (show ∀ i ∈ [0], i < 3 by decide) (dom_c (show 0 < 1 by decide) dom_n) (VNs.c (.ptr 0 _ _ (show 0 < 1 by decide)) (VNs.c (.d _) VNs.nil0)) (SN.c (show 0 < 1 by decide) rfl (.vars (VNs.c (.d _) (VNs.c (.d _) VNs.nil0))) SN.nil0)) (show 3 ≤ 3 by decide) ?_
            refine step (v := .d (.int .u16 (IntKind.u16.wrap r14.1))) rfl ?_
            refine step (v := .ptr 2 0 3) rfl ?_
            refine step (v := .ptr 2 0 (3 + i6.toNat * 1)) (st_iaddrAP (xs := y8.P.l) hx15 rfl rfl rfl) ?_
            refine step (v := V.undef) (σ' := (upd (upd (upd (stab [(0, .var [.d (.str y7.s), .d (.bool y7.bad)]), (1, .var [.d (.int .i64 0), .d (.int .i64 0), .d (.bool false), .d (.int .u16 0), .d (.int .u16 0), .d (.int .u16 0), .d (.int .u16 0), .d (.int .u16 0), .d (.int .u16 0), .d (.int .u16 0), .d (.int .u16 0), .d (.str (⟨#[]⟩ : ByteArray))]), (2, .var [.d (.int .i64 y8.What), .d (.int .i64 y8.N), .d (.bool y8.Back), .d (.int .u16 y8.P.a0), .d (.int .u16 y8.P.a1), .d (.int .u16 y8.P.a2), .d (.int .u16 y8.P.a3), .d (.int .u16 y8.P.a4), .d (.int .u16 y8.P.a5), .d (.int .u16 y8.P.a6), .d (.int .u16 y8.P.a7), .d (.str y8.Raw)])]) 0 none) 0 (some (.var [.d (.str r14.2.s), .d (.bool r14.2.bad)]))) 2 (some (.var [.d (.int .i64 y8.What), .d (.int .i64 y8.N), .d (.bool y8.Back), .d (.int .u16 x16.a0), .d (.int .u16 x16.a1), .d (.int .u16 x16.a2), .d (.int .u16 x16.a3), .d (.int .u16 x16.a4), .d (.int .u16 x16.a5), .d (.int .u16 x16.a6), .d (.int .u16 x16.a7), .d (.str y8.Raw)])))) (n' := 3) (st_storeA (e := (D.int .u16)) (xs := y8.P.l) (xs' := x16.l) (pre := [.d (.int .i64 y8.What), .d (.int .i64 y8.N), .d (.bool y8.Back)]) (post := [.d (.str y8.Raw)]) (A8.put_l hx16) rfl rfl rfl rfl rfl rfl) ?_
            exact RunOps.nil' (Norm.mk [0, 1, 2] (by decide) (by decide) (by decide) ⟨.ptr 0 _ _ (show 0 < 3 by decide), .ptr 1 _ _ (show 1 < 3 by decide), .ptr 2 _ _ (show 2 < 3 by decide), .d _, trivial⟩ ⟨⟨show 0 < 3 by decide, _, rfl, .vars ⟨.d _, .d _, trivial⟩⟩, ⟨show 1 < 3 by decide, _, rfl, .vars ⟨.d _, .d _, .d _, .d _, .d _, .d _, .d _, .d _, .d _, .d _, .d _, .d _, trivial⟩⟩, ⟨show 2 < 3 by decide, _, rfl, .vars ⟨.d _, .d _, .d _, .d _, .d _, .d _, .d _, .d _, .d _, .d _, .d _, .d _, trivial⟩⟩, trivial⟩)
          have hh := Option.some.inj h
          subst hh
          refine NWp.opsE ⟨tab [(0, .ptr 0 0 0), (2, .ptr 1 0 0), (3, .ptr 2 0 0), (5, .d (.int .i64 (i6 + 1)))], stab [(0, .var [.d (.str r14.2.s), .d (.bool r14.2.bad)]), (1, .var [.d (.int .i64 0), .d (.int .i64 0), .d (.bool false), .d (.int .u16 0), .d (.int .u16 0), .d (.int .u16 0), .d (.int .u16 0), .d (.int .u16 0), .d (.int .u16 0), .d (.int .u16 0), .d (.int .u16 0), .d (.str (⟨#[]⟩ : ByteArray))]), (2, .var [.d (.int .i64 ((api_Deed.mk y8.What y8.N y8.Back x16 y8.Raw).What)), .d (.int .i64 ((api_Deed.mk y8.What y8.N y8.Back x16 y8.Raw).N)), .d (.bool ((api_Deed.mk y8.What y8.N y8.Back x16 y8.Raw).Back)), .d (.int .u16 ((api_Deed.mk y8.What y8.N y8.Back x16 y8.Raw).P.a0)), .d (.int .u16 ((api_Deed.mk y8.What y8.N y8.Back x16 y8.Raw).P.a1)), .d (.int .u16 ((api_Deed.mk y8.What y8.N y8.Back x16 y8.Raw).P.a2)), .d (.int .u16 ((api_Deed.mk y8.What y8.N y8.Back x16 y8.Raw).P.a3)), .d (.int .u16 ((api_Deed.mk y8.What y8.N y8.Back x16 y8.Raw).P.a4)), .d (.int .u16 ((api_Deed.mk y8.What y8.N y8.Back x16 y8.Raw).P.a5)), .d (.int .u16 ((api_Deed.mk y8.What y8.N y8.Back x16 y8.Raw).P.a6)), .d (.int .u16 ((api_Deed.mk y8.What y8.N y8.Back x16 y8.Raw).P.a7)), .d (.str ((api_Deed.mk y8.What y8.N y8.Back x16 y8.Raw).Raw))])], 3⟩ ?_ ?_
          · refine step (v := .d (.int .i64 i6)) rfl ?_
            refine step (v := .d (.int .i64 (i6 + 1))) (st_inc (inc_ok hinv11 hgo10 (by decide)) rfl rfl) ?_
            refine step (v := .d (.int .i64 (i6 + 1))) rfl ?_
            exact RunOps.nil' (Norm.mk [0, 1, 2] (by decide) (by decide) (by decide) ⟨.ptr 0 _ _ (show 0 < 3 by decide), .ptr 1 _ _ (show 1 < 3 by decide), .ptr 2 _ _ (show 2 < 3 by decide), .d _, trivial⟩ ⟨⟨show 0 < 3 by decide, _, rfl, .vars ⟨.d _, .d _, trivial⟩⟩, ⟨show 1 < 3 by decide, _, rfl, .vars ⟨.d _, .d _, .d _, .d _, .d _, .d _, .d _, .d _, .d _, .d _, .d _, .d _, trivial⟩⟩, ⟨show 2 < 3 by decide, _, rfl, .vars ⟨.d _, .d _, .d _, .d _, .d _, .d _, .d _, .d _, .d _, .d _, .d _, .d _, trivial⟩⟩, trivial⟩)
          exact And.intro rfl rfl
        · rintro i6 ⟨y7, y8⟩ hinv11 hgo10
          show NWp _ _ _ _ _ ⟨tab [(0, .ptr 0 0 0), (2, .ptr 1 0 0), (3, .ptr 2 0 0), (5, .d (.int .i64 i6))], stab [(0, .var [.d (.str y7.s), .d (.bool y7.bad)]), (1, .var [.d (.int .i64 0), .d (.int .i64 0), .d (.bool false), .d (.int .u16 0), .d (.int .u16 0), .d (.int .u16 0), .d (.int .u16 0), .d (.int .u16 0), .d (.int .u16 0), .d (.int .u16 0), .d (.int .u16 0), .d (.str (⟨#[]⟩ : ByteArray))]), (2, .var [.d (.int .i64 y8.What), .d (.int .i64 y8.N), .d (.bool y8.Back), .d (.int .u16 y8.P.a0), .d (.int .u16 y8.P.a1), .d (.int .u16 y8.P.a2), .d (.int .u16 y8.P.a3), .d (.int .u16 y8.P.a4), .d (.int .u16 y8.P.a5), .d (.int .u16 y8.P.a6), .d (.int .u16 y8.P.a7), .d (.str y8.Raw)])], 3⟩
          have hc12 : ¬ (decide (i6 < 8) = true) := fun hq => hgo10 (of_decide_eq_true hq)
          refine NWp.seq ?_
          refine NWp.opsJ ⟨tab [(0, .ptr 0 0 0), (2, .ptr 1 0 0), (3, .ptr 2 0 0), (5, .d (.int .i64 i6)), (23, .d (.bool (decide (i6 < 8))))], stab [(0, .var [.d (.str y7.s), .d (.bool y7.bad)]), (1, .var [.d (.int .i64 0), .d (.int .i64 0), .d (.bool false), .d (.int .u16 0), .d (.int .u16 0), .d (.int .u16 0), .d (.int .u16 0), .d (.int .u16 0), .d (.int .u16 0), .d (.int .u16 0), .d (.int .u16 0), .d (.str (⟨#[]⟩ : ByteArray))]), (2, .var [.d (.int .i64 y8.What), .d (.int .i64 y8.N), .d (.bool y8.Back), .d (.int .u16 y8.P.a0), .d (.int .u16 y8.P.a1), .d (.int .u16 y8.P.a2), .d (.int .u16 y8.P.a3), .d (.int .u16 y8.P.a4), .d (.int .u16 y8.P.a5), .d (.int .u16 y8.P.a6), .d (.int .u16 y8.P.a7), .d (.str y8.Raw)])], 3⟩ ?_ ?_
          · refine step (v := .d (.int .i64 i6)) rfl ?_
            refine step (v := .d (.bool (decide (i6 < 8)))) rfl ?_
            exact RunOps.nil' (Norm.mk [0, 1, 2] (by decide) (by decide) (by decide) ⟨.ptr 0 _ _ (show 0 < 3 by decide), .ptr 1 _ _ (show 1 < 3 by decide), .ptr 2 _ _ (show 2 < 3 by decide), .d _, .d _, trivial⟩ ⟨⟨show 0 < 3 by decide, _, rfl, .vars ⟨.d _, .d _, trivial⟩⟩, ⟨show 1 < 3 by decide, _, rfl, .vars ⟨.d _, .d _, .d _, .d _, .d _, .d _, .d _, .d _, .d _, .d _, .d _, .d _, trivial⟩⟩, ⟨show 2 < 3 by decide, _, rfl, .vars ⟨.d _, .d _, .d _, .d _, .d _, .d _, .d _, .d _, .d _, .d _, .d _, .d _, trivial⟩⟩, trivial⟩)
          refine NWp.condF (t := decide (i6 < 8)) rfl hc12 ?_
          refine NWp.norm (s0 := ⟨tab [(2, .ptr 1 0 0), (3, .ptr 2 0 0)], stab [(0, .var [.d (.str y7.s), .d (.bool y7.bad)]), (1, .var [.d (.int .i64 0), .d (.int .i64 0), .d (.bool false), .d (.int .u16 0), .d (.int .u16 0), .d (.int .u16 0), .d (.int .u16 0), .d (.int .u16 0), .d (.int .u16 0), .d (.int .u16 0), .d (.int .u16 0), .d (.str (⟨#[]⟩ : ByteArray))]), (2, .var [.d (.int .i64 y8.What), .d (.int .i64 y8.N), .d (.bool y8.Back), .d (.int .u16 y8.P.a0), .d (.int .u16 y8.P.a1), .d (.int .u16 y8.P.a2), .d (.int .u16 y8.P.a3), .d (.int .u16 y8.P.a4), .d (.int .u16 y8.P.a5), .d (.int .u16 y8.P.a6), .d (.int .u16 y8.P.a7), .d (.str y8.Raw)])], 3⟩) (Norm.mk [0, 1, 2] (by decide) (by decide) (by decide) ⟨.ptr 1 _ _ (show 1 < 3 by decide), .ptr 2 _ _ (show 2 < 3 by decide), trivial⟩ ⟨⟨show 0 < 3 by decide, _, rfl, .vars ⟨.d _, .d _, trivial⟩⟩, ⟨show 1 < 3 by decide, _, rfl, .vars ⟨.d _, .d _, .d _, .d _, .d _, .d _, .d _, .d _, .d _, .d _, .d _, .d _, trivial⟩⟩, ⟨show 2 < 3 by decide, _, rfl, .vars ⟨.d _, .d _, .d _, .d _, .d _, .d _, .d _, .d _, .d _, .d _, .d _, .d _, trivial⟩⟩, trivial⟩) ?_
          refine NWp.exit ?_
          exact And.intro rfl rfl
        have hh := Option.some.inj h
        obtain ⟨he0, ht0⟩ := Prod.mk.inj hh
        subst he0
        subst ht0
        exact And.intro rfl rfl
      · replace h := iteF hc5 h
        refine NWp.condF (t := r3.packet) rfl hc5 ?_
        refine NWp.opsJ ⟨tab [(0, .ptr 0 0 0), (2, .ptr 1 0 0), (3, .ptr 2 0 0), (4, .ptr 3 0 0), (32, .d (.bool r3.raw))], stab [(0, .var [.d (.str r2.2.s), .d (.bool r2.2.bad)]), (1, .var [.d (.int .i64 0), .d (.int .i64 0), .d (.bool false), .d (.int .u16 0), .d (.int .u16 0), .d (.int .u16 0), .d (.int .u16 0), .d (.int .u16 0), .d (.int .u16 0), .d (.int .u16 0), .d (.int .u16 0), .d (.str (⟨#[]⟩ : ByteArray))]), (2, .var [.d (.int .i64 r1.1), .d (.int .i64 r2.1), .d (.bool false), .d (.int .u16 0), .d (.int .u16 0), .d (.int .u16 0), .d (.int .u16 0), .d (.int .u16 0), .d (.int .u16 0), .d (.int .u16 0), .d (.int .u16 0), .d (.str (⟨#[]⟩ : ByteArray))]), (3, .var [.d (.bool r3.packet), .d (.bool r3.raw), .d (.bool r3.back)])], 4⟩ ?_ ?_
        · refine step (v := .ptr 3 0 1) rfl ?_
          refine step (v := .d (.bool r3.raw)) rfl ?_
          refine step (v := .d (.bool r3.raw)) rfl ?_
          exact RunOps.nil' (Norm.mk [0, 1, 2, 3] (by decide) (by decide) (by decide) ⟨.ptr 0 _ _ (show 0 < 4 by decide), .ptr 1 _ _ (show 1 < 4 by decide), .ptr 2 _ _ (show 2 < 4 by decide), .ptr 3 _ _ (show 3 < 4 by decide), .d _, trivial⟩ ⟨⟨show 0 < 4 by decide, _, rfl, .vars ⟨.d _, .d _, trivial⟩⟩, ⟨show 1 < 4 by decide, _, rfl, .vars ⟨.d _, .d _, .d _, .d _, .d _, .d _, .d _, .d _, .d _, .d _, .d _, .d _, trivial⟩⟩, ⟨show 2 < 4 by decide, _, rfl, .vars ⟨.d _, .d _, .d _, .d _, .d _, .d _, .d _, .d _, .d _, .d _, .d _, .d _, trivial⟩⟩, ⟨show 3 < 4 by decide, _, rfl, .vars ⟨.d _, .d _, .d _, trivial⟩⟩, trivial⟩)
        by_cases hc20 : r3.raw = true
        · replace h := iteT hc20 h
          refine NWp.condT (t := r3.raw) rfl hc20 ?_
          obtain ⟨r21, hr21, h⟩ := bindE h
          obtain ⟨r22, hr22, h⟩ := bindE h
          have hh := Option.some.inj h
          obtain ⟨he0, ht0⟩ := Prod.mk.inj hh
          subst he0
          subst ht0
          refine NWp.opsE ⟨tab [(2, .ptr 1 0 0), (3, .ptr 2 0 0)], stab [(0, .var [.d (.str r22.2.s), .d (.bool r22.2.bad)]), (1, .var [.d (.int .i64 0), .d (.int .i64 0), .d (.bool false), .d (.int .u16 0), .d (.int .u16 0), .d (.int .u16 0), .d (.int .u16 0), .d (.int .u16 0), .d (.int .u16 0), .d (.int .u16 0), .d (.int .u16 0), .d (.str (⟨#[]⟩ : ByteArray))]), (2, .var [.d (.int .i64 ((api_Deed.mk r1.1 r2.1 false (A8.mk 0 0 0 0 0 0 0 0) r22.1).What)), .d (.int .i64 ((api_Deed.mk r1.1 r2.1 false (A8.mk 0 0 0 0 0 0 0 0) r22.1).N)), .d (.bool ((api_Deed.mk r1.1 r2.1 false (A8.mk 0 0 0 0 0 0 0 0) r22.1).Back)), .d (.int .u16 ((api_Deed.mk r1.1 r2.1 false (A8.mk 0 0 0 0 0 0 0 0) r22.1).P.a0)), .d (.int .u16 ((api_Deed.mk r1.1 r2.1 false (A8.mk 0 0 0 0 0 0 0 0) r22.1).P.a1)), .d (.int .u16 ((api_Deed.mk r1.1 r2.1 false (A8.mk 0 0 0 0 0 0 0 0) r22.1).P.a2)), .d (.int .u16 ((api_Deed.mk r1.1 r2.1 false (A8.mk 0 0 0 0 0 0 0 0) r22.1).P.a3)), .d (.int .u16 ((api_Deed.mk r1.1 r2.1 false (A8.mk 0 0 0 0 0 0 0 0) r22.1).P.a4)), .d (.int .u16 ((api_Deed.mk r1.1 r2.1 false (A8.mk 0 0 0 0 0 0 0 0) r22.1).P.a5)), .d (.int .u16 ((api_Deed.mk r1.1 r2.1 false (A8.mk 0 0 0 0 0 0 0 0) r22.1).P.a6)), .d (.int .u16 ((api_Deed.mk r1.1 r2.1 false (A8.mk 0 0 0 0 0 0 0 0) r22.1).P.a7)), .d (.str ((api_Deed.mk r1.1 r2.1 false (A8.mk 0 0 0 0 0 0 0 0) r22.1).Raw))])], 3⟩ ?_ ?_
          · refine step (v := .ptr 0 0 0) rfl ?_
            refine step (v := .ptr 0 0 0) rfl ?_
            refine stepW (v := .d (.int .i64 r21.1)) (σ' := (upd (upd (stab [(0, .var [.d (.str r2.2.s), .d (.bool r2.2.bad)]), (1, .var [.d (.int .i64 0), .d (.int .i64 0), .d (.bool false), .d (.int .u16 0), .d (.int .u16 0), .d (.int .u16 0), .d (.int .u16 0), .d (.int .u16 0), .d (.int .u16 0), .d (.int .u16 0), .d (.int .u16 0), .d (.str (⟨#[]⟩ : ByteArray))]), (2, .var [.d (.int .i64 r1.1), .d (.int .i64 r2.1), .d (.bool false), .d (.int .u16 0), .d (.int .u16 0), .d (.int .u16 0), .d (.int .u16 0), .d (.int .u16 0), .d (.int .u16 0), .d (.int .u16 0), .d (.int .u16 0), .d (.str (⟨#[]⟩ : ByteArray))]), (3, .var [.d (.bool r3.packet), .d (.bool r3.raw), .d (.bool r3.back)])]) 0 none) 0 (some (.var [.d (.str r21.2.s), .d (.bool r21.2.bad)])))) (n' := 4) (SCall.lift [0] (c_save_reader_number hr21) (show 1 ≤ 1 by decide) (by decide) (show ∀ i ∈ [0], i < 4 by decide) (dom_c (show 0 < 1 by decide) dom_n) (VNs.c (.ptr 0 _ _ (show 0 < 1 by decide)) (VNs.c (.d _) VNs.nil0)) (SN.c (show 0 < 1 by decide) rfl (.vars (VNs.c (.d _) (VNs.c (.d _) VNs.nil0))) SN.nil0)) (show 4 ≤ 4 by decide) ?_
            refine stepW (v := .d (.str r22.1)) (σ' := (upd (upd (upd (upd (stab [(0, .var [.d (.str r2.2.s), .d (.bool r2.2.bad)]), (1, .var [.d (.int .i64 0), .d (.int .i64 0), .d (.bool false), .d (.int .u16 0), .d (.int .u16 0), .d (.int .u16 0), .d (.int .u16 0), .d (.int .u16 0), .d (.int .u16 0), .d (.int .u16 0), .d (.int .u16 0), .d (.str (⟨#[]⟩ : ByteArray))]), (2, .var [.d (.int .i64 r1.1), .d (.int .i64 r2.1), .d (.bool false), .d (.int .u16 0), .d (.int .u16 0), .d (.int .u16 0), .d (.int .u16 0), .d (.int .u16 0), .d (.int .u16 0), .d (.int .u16 0), .d (.int .u16 0), .d (.str (⟨#[]⟩ : ByteArray))]), (3, .var [.d (.bool r3.packet), .d (.bool r3.raw), .d (.bool r3.back)])]) 0 none) 0 (some (.var [.d (.str r21.2.s), .d (.bool r21.2.bad)]))) 0 none) 0 (some (.var [.d (.str r22.2.s), .d (.bool r22.2.bad)])))) (n' := 4) (SCall.lift [0] (c_save_reader_take hr22) (show 1 ≤ 1 by decide) (by decide) (show ∀ i ∈ [0], i < 4 by decide) (dom_c (show 0 < 1 by decide) dom_n) (VNs.c (.ptr 0 _ _ (show 0 < 1 by decide)) (VNs.c (.d _) VNs.nil0)) (SN.c (show 0 < 1 by decide) rfl (.vars (VNs.c (.d _) (VNs.c (.d _) VNs.nil0))) SN.nil0)) (show 4 ≤ 4 by decide) ?_
            refine step (v := .ptr 2 0 11) rfl ?_
            refine step (v := V.undef) (σ' := (upd (upd (upd (upd (upd (stab [(0, .var [.d (.str r2.2.s), .d (.bool r2.2.bad)]), (1, .var [.d (.int .i64 0), .d (.int .i64 0), .d (.bool false), .d (.int .u16 0), .d (.int .u16 0), .d (.int .u16 0), .d (.int .u16 0), .d (.int .u16 0), .d (.int .u16 0), .d (.int .u16 0), .d (.int .u16 0), .d (.str (⟨#[]⟩ : ByteArray))]), (2, .var [.d (.int .i64 r1.1), .d (.int .i64 r2.1), .d (.bool false), .d (.int .u16 0), .d (.int .u16 0), .d (.int .u16 0), .d (.int .u16 0), .d (.int .u16 0), .d (.int .u16 0), .d (.int .u16 0), .d (.int .u16 0), .d (.str (⟨#[]⟩ : ByteArray))]), (3, .var [.d (.bool r3.packet), .d (.bool r3.raw), .d (.bool r3.back)])]) 0 none) 0 (some (.var [.d (.str r21.2.s), .d (.bool r21.2.bad)]))) 0 none) 0 (some (.var [.d (.str r22.2.s), .d (.bool r22.2.bad)]))) 2 (some (.var [.d (.int .i64 r1.1), .d (.int .i64 r2.1), .d (.bool false), .d (.int .u16 0), .d (.int .u16 0), .d (.int .u16 0), .d (.int .u16 0), .d (.int .u16 0), .d (.int .u16 0), .d (.int .u16 0), .d (.int .u16 0), .d (.str r22.1)])))) (n' := 4) rfl ?_
            exact RunOps.nil' (Norm.mk [0, 1, 2] (by decide) (by decide) (by decide) ⟨.ptr 1 _ _ (show 1 < 3 by decide), .ptr 2 _ _ (show 2 < 3 by decide), trivial⟩ ⟨⟨show 0 < 3 by decide, _, rfl, .vars ⟨.d _, .d _, trivial⟩⟩, ⟨show 1 < 3 by decide, _, rfl, .vars ⟨.d _, .d _, .d _, .d _, .d _, .d _, .d _, .d _, .d _, .d _, .d _, .d _, trivial⟩⟩, ⟨show 2 < 3 by decide, _, rfl, .vars ⟨.d _, .d _, .d _, .d _, .d _, .d _, .d _, .d _, .d _, .d _, .d _, .d _, trivial⟩⟩, trivial⟩)
          exact And.intro rfl rfl
        · replace h := iteF hc20 h
          refine NWp.condF (t := r3.raw) rfl hc20 ?_
          refine NWp.opsJ ⟨tab [(0, .ptr 0 0 0), (2, .ptr 1 0 0), (3, .ptr 2 0 0), (40, .d (.bool r3.back))], stab [(0, .var [.d (.str r2.2.s), .d (.bool r2.2.bad)]), (1, .var [.d (.int .i64 0), .d (.int .i64 0), .d (.bool false), .d (.int .u16 0), .d (.int .u16 0), .d (.int .u16 0), .d (.int .u16 0), .d (.int .u16 0), .d (.int .u16 0), .d (.int .u16 0), .d (.int .u16 0), .d (.str (⟨#[]⟩ : ByteArray))]), (2, .var [.d (.int .i64 r1.1), .d (.int .i64 r2.1), .d (.bool false), .d (.int .u16 0), .d (.int .u16 0), .d (.int .u16 0), .d (.int .u16 0), .d (.int .u16 0), .d (.int .u16 0), .d (.int .u16 0), .d (.int .u16 0), .d (.str (⟨#[]⟩ : ByteArray))])], 3⟩ ?_ ?_
          · refine step (v := .ptr 3 0 2) rfl ?_
            refine step (v := .d (.bool r3.back)) rfl ?_
            refine step (v := .d (.bool r3.back)) rfl ?_
            exact RunOps.nil' (Norm.mk [0, 1, 2] (by decide) (by decide) (by decide) ⟨.ptr 0 _ _ (show 0 < 3 by decide), .ptr 1 _ _ (show 1 < 3 by decide), .ptr 2 _ _ (show 2 < 3 by decide), .d _, trivial⟩ ⟨⟨show 0 < 3 by decide, _, rfl, .vars ⟨.d _, .d _, trivial⟩⟩, ⟨show 1 < 3 by decide, _, rfl, .vars ⟨.d _, .d _, .d _, .d _, .d _, .d _, .d _, .d _, .d _, .d _, .d _, .d _, trivial⟩⟩, ⟨show 2 < 3 by decide, _, rfl, .vars ⟨.d _, .d _, .d _, .d _, .d _, .d _, .d _, .d _, .d _, .d _, .d _, .d _, trivial⟩⟩, trivial⟩)
          by_cases hc23 : r3.back = true
          · replace h := iteT hc23 h
            refine NWp.condT (t := r3.back) rfl hc23 ?_
            obtain ⟨r24, hr24, h⟩ := bindE h
            have hh := Option.some.inj h
            obtain ⟨he0, ht0⟩ := Prod.mk.inj hh
            subst he0
            subst ht0
            refine NWp.opsE ⟨tab [(2, .ptr 1 0 0), (3, .ptr 2 0 0)], stab [(0, .var [.d (.str r24.2.s), .d (.bool r24.2.bad)]), (1, .var [.d (.int .i64 0), .d (.int .i64 0), .d (.bool false), .d (.int .u16 0), .d (.int .u16 0), .d (.int .u16 0), .d (.int .u16 0), .d (.int .u16 0), .d (.int .u16 0), .d (.int .u16 0), .d (.int .u16 0), .d (.str (⟨#[]⟩ : ByteArray))]), (2, .var [.d (.int .i64 ((api_Deed.mk r1.1 r2.1 (r24.1 == 1) (A8.mk 0 0 0 0 0 0 0 0) (⟨#[]⟩ : ByteArray)).What)), .d (.int .i64 ((api_Deed.mk r1.1 r2.1 (r24.1 == 1) (A8.mk 0 0 0 0 0 0 0 0) (⟨#[]⟩ : ByteArray)).N)), .d (.bool ((api_Deed.mk r1.1 r2.1 (r24.1 == 1) (A8.mk 0 0 0 0 0 0 0 0) (⟨#[]⟩ : ByteArray)).Back)), .d (.int .u16 ((api_Deed.mk r1.1 r2.1 (r24.1 == 1) (A8.mk 0 0 0 0 0 0 0 0) (⟨#[]⟩ : ByteArray)).P.a0)), .d (.int .u16 ((api_Deed.mk r1.1 r2.1 (r24.1 == 1) (A8.mk 0 0 0 0 0 0 0 0) (⟨#[]⟩ : ByteArray)).P.a1)), .d (.int .u16 ((api_Deed.mk r1.1 r2.1 (r24.1 == 1) (A8.mk 0 0 0 0 0 0 0 0) (⟨#[]⟩ : ByteArray)).P.a2)), .d (.int .u16 ((api_Deed.mk r1.1 r2.1 (r24.1 == 1) (A8.mk 0 0 0 0 0 0 0 0) (⟨#[]⟩ : ByteArray)).P.a3)), .d (.int .u16 ((api_Deed.mk r1.1 r2.1 (r24.1 == 1) (A8.mk 0 0 0 0 0 0 0 0) (⟨#[]⟩ : ByteArray)).P.a4)), .d (.int .u16 ((api_Deed.mk r1.1 r2.1 (r24.1 == 1) (A8.mk 0 0 0 0 0 0 0 0) (⟨#[]⟩ : ByteArray)).P.a5)), .d (.int .u16 ((api_Deed.mk r1.1 r2.1 (r24.1 == 1) (A8.mk 0 0 0 0 0 0 0 0) (⟨#[]⟩ : ByteArray)).P.a6)), .d (.int .u16 ((api_Deed.mk r1.1 r2.1 (r24.1 == 1) (A8.mk 0 0 0 0 0 0 0 0) (⟨#[]⟩ : ByteArray)).P.a7)), .d (.str ((api_Deed.mk r1.1 r2.1 (r24.1 == 1) (A8.mk 0 0 0 0 0 0 0 0) (⟨#[]⟩ : ByteArray)).Raw))])], 3⟩ ?_ ?_
            · refine step (v := .ptr 0 0 0) rfl ?_
              refine stepW (v := .d (.int .i64 r24.1)) (σ' := (upd (upd (stab [(0, .var [.d (.str r2.2.s), .d (.bool r2.2.bad)]), (1, .var [.d (.int .i64 0), .d (.int .i64 0), .d (.bool false), .d (.int .u16 0), .d (.int .u16 0), .d (.int .u16 0), .d (.int .u16 0), .d (.int .u16 0), .d (.int .u16 0), .d (.int .u16 0), .d (.int .u16 0), .d (.str (⟨#[]⟩ : ByteArray))]), (2, .var [.d (.int .i64 r1.1), .d (.int .i64 r2.1), .d (.bool false), .d (.int .u16 0), .d (.int .u16 0), .d (.int .u16 0), .d (.int .u16 0), .d (.int .u16 0), .d (.int .u16 0), .d (.int .u16 0), .d (.int .u16 0), .d (.str (⟨#[]⟩ : ByteArray))])]) 0 none) 0 (some (.var [.d (.str r24.2.s), .d (.bool r24.2.bad)])))) (n' := 3) (SCall.lift [0] (c_save_reader_number hr24) (show 1 ≤ 1 by decide) (by decide) (show ∀ i ∈ [0], i < 3 by decide) (dom_c (show 0 < 1 by decide) dom_n) (VNs.c (.ptr 0 _ _ (show 0 < 1 by decide)) (VNs.c (.d _) VNs.nil0)) (SN.c (show 0 < 1 by decide) rfl (.vars (VNs.c (.d _) (VNs.c (.d _) VNs.nil0))) SN.nil0)) (show 3 ≤ 3 by decide) ?_
              refine step (v := .d (.bool (r24.1 == 1))) rfl ?_
              refine step (v := .ptr 2 0 2) rfl ?_
              refine step (v := V.undef) (σ' := (upd (upd (upd (stab [(0, .var [.d (.str r2.2.s), .d (.bool r2.2.bad)]), (1, .var [.d (.int .i64 0), .d (.int .i64 0), .d (.bool false), .d (.int .u16 0), .d (.int .u16 0), .d (.int .u16 0), .d (.int .u16 0), .d (.int .u16 0), .d (.int .u16 0), .d (.int .u16 0), .d (.int .u16 0), .d (.str (⟨#[]⟩ : ByteArray))]), (2, .var [.d (.int .i64 r1.1), .d (.int .i64 r2.1), .d (.bool false), .d (.int .u16 0), .d (.int .u16 0), .d (.int .u16 0), .d (.int .u16 0), .d (.int .u16 0), .d (.int .u16 0), .d (.int .u16 0), .d (.int .u16 0), .d (.str (⟨#[]⟩ : ByteArray))])]) 0 none) 0 (some (.var [.d (.str r24.2.s), .d (.bool r24.2.bad)]))) 2 (some (.var [.d (.int .i64 r1.1), .d (.int .i64 r2.1), .d (.bool (r24.1 == 1)), .d (.int .u16 0), .d (.int .u16 0), .d (.int .u16 0), .d (.int .u16 0), .d (.int .u16 0), .d (.int .u16 0), .d (.int .u16 0), .d (.int .u16 0), .d (.str (⟨#[]⟩ : ByteArray))])))) (n' := 3) rfl ?_
              exact RunOps.nil' (Norm.mk [0, 1, 2] (by decide) (by decide) (by decide) ⟨.ptr 1 _ _ (show 1 < 3 by decide), .ptr 2 _ _ (show 2 < 3 by decide), trivial⟩ ⟨⟨show 0 < 3 by decide, _, rfl, .vars ⟨.d _, .d _, trivial⟩⟩, ⟨show 1 < 3 by decide, _, rfl, .vars ⟨.d _, .d _, .d _, .d _, .d _, .d _, .d _, .d _, .d _, .d _, .d _, .d _, trivial⟩⟩, ⟨show 2 < 3 by decide, _, rfl, .vars ⟨.d _, .d _, .d _, .d _, .d _, .d _, .d _, .d _, .d _, .d _, .d _, .d _, trivial⟩⟩, trivial⟩)
            exact And.intro rfl rfl
          · replace h := iteF hc23 h
            refine NWp.condF (t := r3.back) rfl hc23 ?_
            have hh := Option.some.inj h
            obtain ⟨he0, ht0⟩ := Prod.mk.inj hh
            subst he0
            subst ht0
            refine NWp.norm (s0 := ⟨tab [(2, .ptr 1 0 0), (3, .ptr 2 0 0)], stab [(0, .var [.d (.str r2.2.s), .d (.bool r2.2.bad)]), (1, .var [.d (.int .i64 0), .d (.int .i64 0), .d (.bool false), .d (.int .u16 0), .d (.int .u16 0), .d (.int .u16 0), .d (.int .u16 0), .d (.int .u16 0), .d (.int .u16 0), .d (.int .u16 0), .d (.int .u16 0), .d (.str (⟨#[]⟩ : ByteArray))]), (2, .var [.d (.int .i64 ((api_Deed.mk r1.1 r2.1 false (A8.mk 0 0 0 0 0 0 0 0) (⟨#[]⟩ : ByteArray)).What)), .d (.int .i64 ((api_Deed.mk r1.1 r2.1 false (A8.mk 0 0 0 0 0 0 0 0) (⟨#[]⟩ : ByteArray)).N)), .d (.bool ((api_Deed.mk r1.1 r2.1 false (A8.mk 0 0 0 0 0 0 0 0) (⟨#[]⟩ : ByteArray)).Back)), .d (.int .u16 ((api_Deed.mk r1.1 r2.1 false (A8.mk 0 0 0 0 0 0 0 0) (⟨#[]⟩ : ByteArray)).P.a0)), .d (.int .u16 ((api_Deed.mk r1.1 r2.1 false (A8.mk 0 0 0 0 0 0 0 0) (⟨#[]⟩ : ByteArray)).P.a1)), .d (.int .u16 ((api_Deed.mk r1.1 r2.1 false (A8.mk 0 0 0 0 0 0 0 0) (⟨#[]⟩ : ByteArray)).P.a2)), .d (.int .u16 ((api_Deed.mk r1.1 r2.1 false (A8.mk 0 0 0 0 0 0 0 0) (⟨#[]⟩ : ByteArray)).P.a3)), .d (.int .u16 ((api_Deed.mk r1.1 r2.1 false (A8.mk 0 0 0 0 0 0 0 0) (⟨#[]⟩ : ByteArray)).P.a4)), .d (.int .u16 ((api_Deed.mk r1.1 r2.1 false (A8.mk 0 0 0 0 0 0 0 0) (⟨#[]⟩ : ByteArray)).P.a5)), .d (.int .u16 ((api_Deed.mk r1.1 r2.1 false (A8.mk 0 0 0 0 0 0 0 0) (⟨#[]⟩ : ByteArray)).P.a6)), .d (.int .u16 ((api_Deed.mk r1.1 r2.1 false (A8.mk 0 0 0 0 0 0 0 0) (⟨#[]⟩ : ByteArray)).P.a7)), .d (.str ((api_Deed.mk r1.1 r2.1 false (A8.mk 0 0 0 0 0 0 0 0) (⟨#[]⟩ : ByteArray)).Raw))])], 3⟩) (Norm.mk [0, 1, 2] (by decide) (by decide) (by decide) ⟨.ptr 1 _ _ (show 1 < 3 by decide), .ptr 2 _ _ (show 2 < 3 by decide), trivial⟩ ⟨⟨show 0 < 3 by decide, _, rfl, .vars ⟨.d _, .d _, trivial⟩⟩, ⟨show 1 < 3 by decide, _, rfl, .vars ⟨.d _, .d _, .d _, .d _, .d _, .d _, .d _, .d _, .d _, .d _, .d _, .d _, trivial⟩⟩, ⟨show 2 < 3 by decide, _, rfl, .vars ⟨.d _, .d _, .d _, .d _, .d _, .d _, .d _, .d _, .d _, .d _, .d _, .d _, trivial⟩⟩, trivial⟩) ?_
            refine NWp.skip ?_
            exact And.intro rfl rfl
  refine NWp.opsJ ⟨tab [(2, .ptr 1 0 0)], stab [(0, .var [.d (.str y25.s), .d (.bool y25.bad)]), (1, .var [.d (.int .i64 y26.What), .d (.int .i64 y26.N), .d (.bool y26.Back), .d (.int .u16 y26.P.a0), .d (.int .u16 y26.P.a1), .d (.int .u16 y26.P.a2), .d (.int .u16 y26.P.a3), .d (.int .u16 y26.P.a4), .d (.int .u16 y26.P.a5), .d (.int .u16 y26.P.a6), .d (.int .u16 y26.P.a7), .d (.str y26.Raw)])], 2⟩ ?_ ?_
  · refine step (v := .d (eapi_Deed y26)) (st_ldV (ds := [.int .i64 y26.What, .int .i64 y26.N, .bool y26.Back, .int .u16 y26.P.a0, .int .u16 y26.P.a1, .int .u16 y26.P.a2, .int .u16 y26.P.a3, .int .u16 y26.P.a4, .int .u16 y26.P.a5, .int .u16 y26.P.a6, .int .u16 y26.P.a7, .str y26.Raw]) rfl rfl (show 12 ≤ 12 by decide) rfl) ?_
    refine step (v := V.undef) (σ' := (upd (stab [(0, .var [.d (.str y25.s), .d (.bool y25.bad)]), (1, .var [.d (.int .i64 0), .d (.int .i64 0), .d (.bool false), .d (.int .u16 0), .d (.int .u16 0), .d (.int .u16 0), .d (.int .u16 0), .d (.int .u16 0), .d (.int .u16 0), .d (.int .u16 0), .d (.int .u16 0), .d (.str (⟨#[]⟩ : ByteArray))]), (2, .var [.d (.int .i64 y26.What), .d (.int .i64 y26.N), .d (.bool y26.Back), .d (.int .u16 y26.P.a0), .d (.int .u16 y26.P.a1), .d (.int .u16 y26.P.a2), .d (.int .u16 y26.P.a3), .d (.int .u16 y26.P.a4), .d (.int .u16 y26.P.a5), .d (.int .u16 y26.P.a6), .d (.int .u16 y26.P.a7), .d (.str y26.Raw)])]) 1 (some (.var [.d (.int .i64 y26.What), .d (.int .i64 y26.N), .d (.bool y26.Back), .d (.int .u16 y26.P.a0), .d (.int .u16 y26.P.a1), .d (.int .u16 y26.P.a2), .d (.int .u16 y26.P.a3), .d (.int .u16 y26.P.a4), .d (.int .u16 y26.P.a5), .d (.int .u16 y26.P.a6), .d (.int .u16 y26.P.a7), .d (.str y26.Raw)])))) (n' := 3) rfl ?_
    exact RunOps.nil' (Norm.mk [0, 1] (by decide) (by decide) (by decide) ⟨.ptr 1 _ _ (show 1 < 2 by decide), trivial⟩ ⟨⟨show 0 < 2 by decide, _, rfl, .vars ⟨.d _, .d _, trivial⟩⟩, ⟨show 1 < 2 by decide, _, rfl, .vars ⟨.d _, .d _, .d _, .d _, .d _, .d _, .d _, .d _, .d _, .d _, .d _, .d _, trivial⟩⟩, trivial⟩)
  have hh := Option.some.inj h
  subst hh
  refine NWp.ret ?_
  exact ⟨.inr rfl, _, rfl, rfl, AllS.sub ⟨rfl, trivial⟩, rfl⟩

theorem c_save_Decode {a0 : ByteArray} {r : ((List api_Deed) × Int)} (h : save_Decode a0 = some r) : PCall Try.prog 14 [.str a0] (.tup [eL (some 12) eapi_Deed r.1, .int .i64 r.2]) := by
  refine PCall.introN ok14 (show 1 ≤ 64 by decide) ?_
  refine NWp.norm (s0 := ⟨tab [(0, .d (.str a0))], stab [], 0⟩) (Norm.mk [] (by decide) (by decide) (by decide) ⟨.d _, trivial⟩ trivial) ?_
  refine NWp.opsJ ⟨tab [(0, .d (.str a0))], stab [], 0⟩ ?_ ?_
  · refine step (v := .d (eL (some 12) eapi_Deed ([] : List api_Deed))) rfl ?_
    refine step (v := .d (.int .i64 0)) rfl ?_
    exact RunOps.nil' (Norm.mk [] (by decide) (by decide) (by decide) ⟨.d _, trivial⟩ trivial)
  refine NWp.seq ?_
  obtain ⟨y7, hv, h⟩ := bindE h
  refine NWp.opsJ ⟨tab [(0, .d (.str a0)), (26, .d (.bool y7))], stab [], 0⟩ ?_ ?_
  · refine step (v := .d (.str a0)) rfl ?_
    refine step (v := .d (.int .i64 (a0.size : Int))) rfl ?_
    refine step (v := .d (.bool (decide ((a0.size : Int) < 4)))) rfl ?_
    refine step (v := .d (.bool (decide ((a0.size : Int) < 4)))) rfl ?_
    by_cases hg1 : decide ((a0.size : Int) < 4) = true
    · replace hv := iteT hg1 hv
      refine stepX (c := decide ((a0.size : Int) < 4)) rfl (by rw [hg1]; decide) ?_
      refine stepX (c := decide ((a0.size : Int) < 4)) rfl (by rw [hg1]; decide) ?_
      refine stepX (c := decide ((a0.size : Int) < 4)) rfl (by rw [hg1]; decide) ?_
      refine step (v := .d (.bool true)) (st_pickT (b := decide ((a0.size : Int) < 4)) rfl hg1 rfl) ?_
      refine step (v := .d (.bool true)) rfl ?_
      refine stepX (c := true) rfl (by decide) ?_
      refine stepX (c := true) rfl (by decide) ?_
      refine stepX (c := true) rfl (by decide) ?_
      refine stepX (c := true) rfl (by decide) ?_
      refine stepX (c := true) rfl (by decide) ?_
      refine stepX (c := true) rfl (by decide) ?_
      refine stepX (c := true) rfl (by decide) ?_
      refine stepX (c := true) rfl (by decide) ?_
      refine stepX (c := true) rfl (by decide) ?_
      refine stepX (c := true) rfl (by decide) ?_
      refine step (v := .d (.bool true)) (st_pickT (b := true) rfl rfl rfl) ?_
      have hh := Option.some.inj hv
      subst hh
      exact RunOps.nil' (Norm.mk [] (by decide) (by decide) (by decide) ⟨.d _, .d _, trivial⟩ trivial)
    · replace hv := iteF hg1 hv
      obtain ⟨b2, hb2, hv⟩ := bindE hv
      refine stepG (c := decide ((a0.size : Int) < 4)) rfl (Bool.eq_false_iff.2 hg1) ?_
      refine step (v := .d (.str a0)) rfl ?_
      refine stepG (c := decide ((a0.size : Int) < 4)) rfl (Bool.eq_false_iff.2 hg1) ?_
      refine step (v := .d (.int .u8 b2)) (st_idxS hb2 rfl rfl) ?_
      refine stepG (c := decide ((a0.size : Int) < 4)) rfl (Bool.eq_false_iff.2 hg1) ?_
      refine step (v := .d (.bool (b2 != 68))) rfl ?_
      refine step (v := .d (.bool (b2 != 68))) (st_pickF (b := decide ((a0.size : Int) < 4)) rfl hg1 rfl) ?_
      refine step (v := .d (.bool (b2 != 68))) rfl ?_
      by_cases hg3 : (b2 != 68) = true
      · replace hv := iteT hg3 hv
        refine stepX (c := (b2 != 68)) rfl (by rw [hg3]; decide) ?_
        refine stepX (c := (b2 != 68)) rfl (by rw [hg3]; decide) ?_
        refine stepX (c := (b2 != 68)) rfl (by rw [hg3]; decide) ?_
        refine stepX (c := (b2 != 68)) rfl (by rw [hg3]; decide) ?_
        refine stepX (c := (b2 != 68)) rfl (by rw [hg3]; decide) ?_
        refine stepX (c := (b2 != 68)) rfl (by rw [hg3]; decide) ?_
        refine stepX (c := (b2 != 68)) rfl (by rw [hg3]; decide) ?_
        refine stepX (c := (b2 != 68)) rfl (by rw [hg3]; decide) ?_
        refine stepX (c := (b2 != 68)) rfl (by rw [hg3]; decide) ?_
        refine stepX (c := (b2 != 68)) rfl (by rw [hg3]; decide) ?_
        refine step (v := .d (.bool true)) (st_pickT (b := (b2 != 68)) rfl hg3 rfl) ?_
        have hh := Option.some.inj hv
        subst hh
        exact RunOps.nil' (Norm.mk [] (by decide) (by decide) (by decide) ⟨.d _, .d _, trivial⟩ trivial)
      · replace hv := iteF hg3 hv
        obtain ⟨s4, hs4, hv⟩ := bindE hv
        obtain ⟨l5, hl5, hv⟩ := bindE hv
        obtain ⟨r6, hr6, hv⟩ := bindE hv
        refine stepG (c := (b2 != 68)) rfl (Bool.eq_false_iff.2 hg3) ?_
        refine step (v := .d (.str a0)) rfl ?_
        refine stepG (c := (b2 != 68)) rfl (Bool.eq_false_iff.2 hg3) ?_
        refine step (v := .d (.str a0)) rfl ?_
        refine stepG (c := (b2 != 68)) rfl (Bool.eq_false_iff.2 hg3) ?_
        refine step (v := .d (.int .i64 (a0.size : Int))) rfl ?_
        refine stepG (c := (b2 != 68)) rfl (Bool.eq_false_iff.2 hg3) ?_
        refine step (v := .d (.int .i64 (IntKind.i64.wrap ((a0.size : Int) - 2)))) rfl ?_
        refine stepG (c := (b2 != 68)) rfl (Bool.eq_false_iff.2 hg3) ?_
        refine step (v := .d (.str s4)) (st_sstr hs4 rfl rfl ⟨_, rfl⟩) ?_
        refine stepG (c := (b2 != 68)) rfl (Bool.eq_false_iff.2 hg3) ?_
        refine step (v := .loc 0 0 l5.length) (σ' := (upd (stab []) 0 (some (.lst false none (List.map (D.int .u8) l5))))) (n' := 1) (st_s2b' hl5 rfl) ?_
        refine stepG (c := (b2 != 68)) rfl (Bool.eq_false_iff.2 hg3) ?_
        refine stepW (v := .loc 1 0 r6.length) (σ' := (upd (upd (upd (stab []) 0 (some (.lst false none (List.map (D.int .u8) l5)))) 0 none) 1 (some (.lst false none (List.map (D.int .u8) r6))))) (n' := 2) (SCall.lift [0] (c_save_check hr6) (show 1 ≤ 2 by decide) (by decide) (show ∀ i ∈ [0], i < 1 by decide) (dom_c (show 1 < 2 by decide) dom_n) (VNs.c (.loc 0 _ _ (show 0 < 1 by decide)) VNs.nil0) (SN.c (show 0 < 1 by decide) rfl (.lst _ _ _) SN.nil0)) (show 1 ≤ 2 by decide) ?_
        refine stepG (c := (b2 != 68)) rfl (Bool.eq_false_iff.2 hg3) ?_
        refine step (v := .d (.str (strOfB r6))) (st_b2sL (xs := r6) rfl rfl rfl) ?_
        refine stepG (c := (b2 != 68)) rfl (Bool.eq_false_iff.2 hg3) ?_
        refine step (v := .d (.str a0)) rfl ?_
        refine stepG (c := (b2 != 68)) rfl (Bool.eq_false_iff.2 hg3) ?_
        refine step (v := .d (.bool (!(seqB (strOfB r6) a0)))) rfl ?_
        refine step (v := .d (.bool (!(seqB (strOfB r6) a0)))) (st_pickF (b := (b2 != 68)) rfl hg3 rfl) ?_
        have hh := Option.some.inj hv
        subst hh
        exact RunOps.nil' (Norm.mk [] (by decide) (by decide) (by decide) ⟨.d _, .d _, trivial⟩ trivial)
  by_cases hc9 : y7 = true
  · replace h := iteT hc9 h
    refine NWp.condT (t := y7) rfl hc9 ?_
    refine NWp.opsJ ⟨tab [(2, .d (eL (some 12) eapi_Deed ([] : List api_Deed))), (3, .d (.int .i64 30))], stab [], 0⟩ ?_ ?_
    · refine step (v := .d (eL (some 12) eapi_Deed ([] : List api_Deed))) rfl ?_
      refine step (v := .d (.int .i64 30)) rfl ?_
      exact RunOps.nil' (Norm.mk [] (by decide) (by decide) (by decide) ⟨.d _, .d _, trivial⟩ trivial)
    have hh := Option.some.inj h
    subst hh
    refine NWp.ret ?_
    show FQ _ _ _ _
    exact FQ.mkT (.inr rfl) (res_t (v := .d (eL (some 12) eapi_Deed ([] : List api_Deed))) rfl (res_t (v := .d (.int .i64 30)) rfl rfl)) (RV.d (RV.d trivial))
  · replace h := iteF hc9 h
    refine NWp.condF (t := y7) rfl hc9 ?_
    refine NWp.skip ?_
    obtain ⟨s10, hs10, h⟩ := bindE h
    refine NWp.opsJ ⟨tab [(4, .ptr 0 0 0)], stab [(0, .var [.d (.str s10), .d (.bool false)])], 1⟩ ?_ ?_
    · refine step (v := .d (.str a0)) rfl ?_
      refine step (v := .d (.str a0)) rfl ?_
      refine step (v := .d (.int .i64 (a0.size : Int))) rfl ?_
      refine step (v := .d (.int .i64 (IntKind.i64.wrap ((a0.size : Int) - 2)))) rfl ?_
      refine step (v := .d (.str s10)) (st_sstr hs10 rfl ⟨_, rfl⟩ ⟨_, rfl⟩) ?_
      refine step (v := .d (esave_reader (save_reader.mk s10 false))) (st_build (ds := [.str s10, .bool false]) rfl) ?_
      refine step (v := .ptr 0 0 0) (σ' := (upd (stab []) 0 (some (.var [.d (.str s10), .d (.bool false)])))) (n' := 1) rfl ?_
      refine step (v := .ptr 0 0 0) rfl ?_
      exact RunOps.nil' (Norm.mk [0] (by decide) (by decide) (by decide) ⟨.ptr 0 _ _ (show 0 < 1 by decide), trivial⟩ ⟨⟨show 0 < 1 by decide, _, rfl, .vars ⟨.d _, .d _, trivial⟩⟩, trivial⟩)
    refine NWp.opsJ ⟨tab [(4, .ptr 0 0 0), (5, .d (.nils))], stab [(0, .var [.d (.str s10), .d (.bool false)])], 1⟩ ?_ ?_
    · refine step (v := .d (.nils)) rfl ?_
      exact RunOps.nil' (Norm.mk [0] (by decide) (by decide) (by decide) ⟨.ptr 0 _ _ (show 0 < 1 by decide), .d _, trivial⟩ ⟨⟨show 0 < 1 by decide, _, rfl, .vars ⟨.d _, .d _, trivial⟩⟩, trivial⟩)
    refine NWp.seq ?_
    obtain ⟨r11, hr11, h⟩ := bindE h
    refine NWp.opsJ ⟨tab [(4, .ptr 0 0 0), (5, .d (.nils)), (6, .d (.int .i64 r11.1))], stab [(0, .var [.d (.str r11.2.s), .d (.bool r11.2.bad)])], 1⟩ ?_ ?_
    · refine step (v := .ptr 0 0 0) rfl ?_
      refine stepW (v := .d (.int .i64 r11.1)) (σ' := (upd (upd (stab [(0, .var [.d (.str s10), .d (.bool false)])]) 0 none) 0 (some (.var [.d (.str r11.2.s), .d (.bool r11.2.bad)])))) (n' := 1) (SCall.lift [0] (c_save_reader_number hr11) (show 1 ≤ 1 by decide) (by decide) (show ∀ i ∈ [0], i < 1 by decide) (dom_c (show 0 < 1 by decide) dom_n) (VNs.c (.ptr 0 _ _ (show 0 < 1 by decide)) (VNs.c (.d _) VNs.nil0)) (SN.c (show 0 < 1 by decide) rfl (.vars (VNs.c (.d _) (VNs.c (.d _) VNs.nil0))) SN.nil0)) (show 1 ≤ 1 by decide) ?_
      refine step (v := .d (.int .i64 r11.1)) rfl ?_
      exact RunOps.nil' (Norm.mk [0] (by decide) (by decide) (by decide) ⟨.ptr 0 _ _ (show 0 < 1 by decide), .d _, .d _, trivial⟩ ⟨⟨show 0 < 1 by decide, _, rfl, .vars ⟨.d _, .d _, trivial⟩⟩, trivial⟩)
    obtain ⟨q25, hl, h⟩ := bindE h
    obtain ⟨z20, z21, z22⟩ := q25
    refine NWp.norm (s0 := ⟨tab [(4, .ptr 0 0 0), (5, .loc 1 0 (([] : List api_Deed).length)), (6, .d (.int .i64 r11.1))], stab [(0, .var [.d (.str r11.2.s), .d (.bool r11.2.bad)]), (1, .lst false (some 12) (List.map eapi_Deed ([] : List api_Deed)))], 2⟩) (Norm.trans (s2 := ⟨tab [(4, .ptr 0 0 0), (5, .loc 1 0 (([] : List api_Deed).length)), (6, .d (.int .i64 r11.1))], stab [(0, .var [.d (.str r11.2.s), .d (.bool r11.2.bad)]), (1, .lst false (some 12) (List.map eapi_Deed ([] : List api_Deed)))], 2⟩) (Norm.nil1 5 false (some 12) rfl) (Norm.mk [0, 1] (by decide) (by decide) (by decide) ⟨.ptr 0 _ _ (show 0 < 2 by decide), .loc 1 _ _ (show 1 < 2 by decide), .d _, trivial⟩ ⟨⟨show 0 < 2 by decide, _, rfl, .vars ⟨.d _, .d _, trivial⟩⟩, ⟨show 1 < 2 by decide, _, rfl, .lst _ _ _⟩, trivial⟩)) ?_
    refine NWp.block ?_
    refine loop_whK (fun (qq : ((List api_Deed) × Int × save_reader)) => ⟨tab [(4, .ptr 0 0 0), (5, .loc 1 0 qq.1.length), (6, .d (.int .i64 qq.2.1))], stab [(0, .var [.d (.str qq.2.2.s), .d (.bool qq.2.2.bad)]), (1, .lst false (some 12) (List.map eapi_Deed qq.1))], 2⟩) 0 (fun (qq : ((List api_Deed) × Int × save_reader)) => ⟨tab [(4, .ptr 0 0 0), (5, .loc 1 0 qq.1.length)], stab [(0, .var [.d (.str qq.2.2.s), .d (.bool qq.2.2.bad)]), (1, .lst false (some 12) (List.map eapi_Deed qq.1))], 2⟩) hl ?_ ?_
    · rintro ⟨l12, i13, y14⟩ xr15 h
      show NWp _ _ _ _ _ ⟨tab [(4, .ptr 0 0 0), (5, .loc 1 0 l12.length), (6, .d (.int .i64 i13))], stab [(0, .var [.d (.str y14.s), .d (.bool y14.bad)]), (1, .lst false (some 12) (List.map eapi_Deed l12))], 2⟩
      refine NWp.seq ?_
      refine NWp.opsJ ⟨tab [(4, .ptr 0 0 0), (5, .loc 1 0 l12.length), (6, .d (.int .i64 i13)), (44, .d (.bool ((decide (i13 > 0)) && (!y14.bad))))], stab [(0, .var [.d (.str y14.s), .d (.bool y14.bad)]), (1, .lst false (some 12) (List.map eapi_Deed l12))], 2⟩ ?_ ?_
      · refine step (v := .d (.int .i64 i13)) rfl ?_
        refine step (v := .d (.bool (decide (i13 > 0)))) rfl ?_
        refine step (v := .d (.bool (decide (i13 > 0)))) rfl ?_
        by_cases hg16 : decide (i13 > 0) = true
        · refine stepG (c := decide (i13 > 0)) rfl hg16 ?_
          refine step (v := .ptr 0 0 0) rfl ?_
          refine stepG (c := decide (i13 > 0)) rfl hg16 ?_
          refine step (v := .ptr 0 0 0) rfl ?_
          refine stepG (c := decide (i13 > 0)) rfl hg16 ?_
          refine step (v := .ptr 0 0 1) rfl ?_
          refine stepG (c := decide (i13 > 0)) rfl hg16 ?_
          refine step (v := .d (.bool y14.bad)) rfl ?_
          refine stepG (c := decide (i13 > 0)) rfl hg16 ?_
          refine step (v := .d (.bool (!y14.bad))) rfl ?_
          refine step (v := .d (.bool (!y14.bad))) (st_pickT (b := decide (i13 > 0)) rfl hg16 rfl) ?_
          exact RunOps.nil' (Norm.mk [0, 1] (by decide) (by decide) (by decide) ⟨.ptr 0 _ _ (show 0 < 2 by decide), .loc 1 _ _ (show 1 < 2 by decide), .d _, .eq (by simp [hg16]), trivial⟩ ⟨⟨show 0 < 2 by decide, _, rfl, .vars ⟨.d _, .d _, trivial⟩⟩, ⟨show 1 < 2 by decide, _, rfl, .lst _ _ _⟩, trivial⟩)
        · refine stepX (c := decide (i13 > 0)) rfl hg16 ?_
          refine stepX (c := decide (i13 > 0)) rfl hg16 ?_
          refine stepX (c := decide (i13 > 0)) rfl hg16 ?_
          refine stepX (c := decide (i13 > 0)) rfl hg16 ?_
          refine stepX (c := decide (i13 > 0)) rfl hg16 ?_
          refine step (v := .d (.bool false)) (st_pickF (b := decide (i13 > 0)) rfl hg16 rfl) ?_
          exact RunOps.nil' (Norm.mk [0, 1] (by decide) (by decide) (by decide) ⟨.ptr 0 _ _ (show 0 < 2 by decide), .loc 1 _ _ (show 1 < 2 by decide), .d _, .eq (by simp [hg16]), trivial⟩ ⟨⟨show 0 < 2 by decide, _, rfl, .vars ⟨.d _, .d _, trivial⟩⟩, ⟨show 1 < 2 by decide, _, rfl, .lst _ _ _⟩, trivial⟩)
      by_cases hc17 : ((decide (i13 > 0)) && (!y14.bad)) = true
      · replace h := iteT hc17 h
        refine NWp.condT (t := ((decide (i13 > 0)) && (!y14.bad))) rfl hc17 ?_
        refine NWp.skip ?_
        refine NWp.seq ?_
        refine NWp.block ?_
        obtain ⟨r18, hr18, h⟩ := bindE h
        obtain ⟨l19, hl19, h⟩ := bindE h
        refine NWp.opsE ⟨tab [(4, .ptr 0 0 0), (5, .loc 1 0 l19.length), (6, .d (.int .i64 i13))], stab [(0, .var [.d (.str r18.2.s), .d (.bool r18.2.bad)]), (1, .lst false (some 12) (List.map eapi_Deed l19))], 2⟩ ?_ ?_
        · refine step (v := .loc 1 0 l12.length) rfl ?_
          refine step (v := .ptr 0 0 0) rfl ?_
          refine stepW (v := .d (eapi_Deed r18.1)) (σ' := (upd (upd (stab [(0, .var [.d (.str y14.s), .d (.bool y14.bad)]), (1, .lst false (some 12) (List.map eapi_Deed l12))]) 0 none) 0 (some (.var [.d (.str r18.2.s), .d (.bool r18.2.bad)])))) (n' := 3) (SCall.lift [0] (c_save_reader_deed hr18) (show 1 ≤ 2 by decide) (by decide) (show ∀ i ∈ [0], i < 2 by decide) (dom_c (show 0 < 2 by decide) dom_n) (VNs.c (.ptr 0 _ _ (show 0 < 1 by decide)) VNs.nil0) (SN.c (show 0 < 1 by decide) rfl (.vars (VNs.c (.d _) (VNs.c (.d _) VNs.nil0))) SN.nil0)) (show 2 ≤ 3 by decide) ?_
          refine step (v := .d (eL (some 12) eapi_Deed ([r18.1] : List api_Deed))) rfl ?_
          refine step (v := .loc 3 0 l19.length) (σ' := (upd (upd (upd (upd (stab [(0, .var [.d (.str y14.s), .d (.bool y14.bad)]), (1, .lst false (some 12) (List.map eapi_Deed l12))]) 0 none) 0 (some (.var [.d (.str r18.2.s), .d (.bool r18.2.bad)]))) 1 none) 3 (some (.lst false (some 12) (List.map eapi_Deed l19))))) (n' := 4) (st_app (xs := l12) (ys := ([r18.1] : List api_Deed)) (e := eapi_Deed) hl19 rfl rfl rfl (src_v (xs := ([r18.1] : List api_Deed)) (e := eapi_Deed) rfl)) ?_
          refine step (v := .loc 3 0 l19.length) rfl ?_
          exact RunOps.nil' (Norm.mk [0, 3] (by decide) (by decide) (by decide) ⟨.ptr 0 _ _ (show 0 < 2 by decide), .loc 1 _ _ (show 1 < 2 by decide), .d _, trivial⟩ ⟨⟨show 0 < 2 by decide, _, rfl, .vars ⟨.d _, .d _, trivial⟩⟩, ⟨show 1 < 2 by decide, _, rfl, .lst _ _ _⟩, trivial⟩)
        have hh := Option.some.inj h
        subst hh
        refine NWp.opsE ⟨tab [(4, .ptr 0 0 0), (5, .loc 1 0 l19.length), (6, .d (.int .i64 (IntKind.i64.wrap (i13 - 1))))], stab [(0, .var [.d (.str r18.2.s), .d (.bool r18.2.bad)]), (1, .lst false (some 12) (List.map eapi_Deed l19))], 2⟩ ?_ ?_
        · refine step (v := .d (.int .i64 i13)) rfl ?_
          refine step (v := .d (.int .i64 (IntKind.i64.wrap (i13 - 1)))) rfl ?_
          refine step (v := .d (.int .i64 (IntKind.i64.wrap (i13 - 1)))) rfl ?_
          exact RunOps.nil' (Norm.mk [0, 1] (by decide) (by decide) (by decide) ⟨.ptr 0 _ _ (show 0 < 2 by decide), .loc 1 _ _ (show 1 < 2 by decide), .d _, trivial⟩ ⟨⟨show 0 < 2 by decide, _, rfl, .vars ⟨.d _, .d _, trivial⟩⟩, ⟨show 1 < 2 by decide, _, rfl, .lst _ _ _⟩, trivial⟩)
        exact And.intro rfl rfl
      · replace h := iteF hc17 h
        refine NWp.condF (t := ((decide (i13 > 0)) && (!y14.bad))) rfl hc17 ?_
        have hh := Option.some.inj h
        subst hh
        refine NWp.norm (s0 := ⟨tab [(4, .ptr 0 0 0), (5, .loc 1 0 l12.length)], stab [(0, .var [.d (.str y14.s), .d (.bool y14.bad)]), (1, .lst false (some 12) (List.map eapi_Deed l12))], 2⟩) (Norm.mk [0, 1] (by decide) (by decide) (by decide) ⟨.ptr 0 _ _ (show 0 < 2 by decide), .loc 1 _ _ (show 1 < 2 by decide), trivial⟩ ⟨⟨show 0 < 2 by decide, _, rfl, .vars ⟨.d _, .d _, trivial⟩⟩, ⟨show 1 < 2 by decide, _, rfl, .lst _ _ _⟩, trivial⟩) ?_
        refine NWp.exit ?_
        exact And.intro rfl rfl
    refine NWp.seq ?_
    refine NWp.opsJ ⟨tab [(5, .loc 0 0 z20.length), (62, .d (.bool (z22.bad || (!(seqB z22.s (⟨#[]⟩ : ByteArray))))))], stab [(0, .lst false (some 12) (List.map eapi_Deed z20))], 1⟩ ?_ ?_
    · refine step (v := .ptr 0 0 0) rfl ?_
      refine step (v := .ptr 0 0 0) rfl ?_
      refine step (v := .ptr 0 0 1) rfl ?_
      refine step (v := .d (.bool z22.bad)) rfl ?_
      refine step (v := .d (.bool z22.bad)) rfl ?_
      by_cases hg23 : z22.bad = true
      · refine stepX (c := z22.bad) rfl (by rw [hg23]; decide) ?_
        refine stepX (c := z22.bad) rfl (by rw [hg23]; decide) ?_
        refine stepX (c := z22.bad) rfl (by rw [hg23]; decide) ?_
        refine stepX (c := z22.bad) rfl (by rw [hg23]; decide) ?_
        refine stepX (c := z22.bad) rfl (by rw [hg23]; decide) ?_
        refine step (v := .d (.bool true)) (st_pickT (b := z22.bad) rfl hg23 rfl) ?_
        exact RunOps.nil' (Norm.mk [1] (by decide) (by decide) (by decide) ⟨.loc 0 _ _ (show 0 < 1 by decide), .eq (by simp [hg23]), trivial⟩ ⟨⟨show 0 < 1 by decide, _, rfl, .lst _ _ _⟩, trivial⟩)
      · refine stepG (c := z22.bad) rfl (Bool.eq_false_iff.2 hg23) ?_
        refine step (v := .ptr 0 0 0) rfl ?_
        refine stepG (c := z22.bad) rfl (Bool.eq_false_iff.2 hg23) ?_
        refine step (v := .ptr 0 0 0) rfl ?_
        refine stepG (c := z22.bad) rfl (Bool.eq_false_iff.2 hg23) ?_
        refine step (v := .ptr 0 0 0) rfl ?_
        refine stepG (c := z22.bad) rfl (Bool.eq_false_iff.2 hg23) ?_
        refine step (v := .d (.str z22.s)) rfl ?_
        refine stepG (c := z22.bad) rfl (Bool.eq_false_iff.2 hg23) ?_
        refine step (v := .d (.bool (!(seqB z22.s (⟨#[]⟩ : ByteArray))))) rfl ?_
        refine step (v := .d (.bool (!(seqB z22.s (⟨#[]⟩ : ByteArray))))) (st_pickF (b := z22.bad) rfl hg23 rfl) ?_
        exact RunOps.nil' (Norm.mk [1] (by decide) (by decide) (by decide) ⟨.loc 0 _ _ (show 0 < 1 by decide), .eq (by simp [hg23]), trivial⟩ ⟨⟨show 0 < 1 by decide, _, rfl, .lst _ _ _⟩, trivial⟩)
    by_cases hc24 : (z22.bad || (!(seqB z22.s (⟨#[]⟩ : ByteArray)))) = true
    · replace h := iteT hc24 h
      refine NWp.condT (t := (z22.bad || (!(seqB z22.s (⟨#[]⟩ : ByteArray))))) rfl hc24 ?_
      refine NWp.opsJ ⟨tab [(2, .d (eL (some 12) eapi_Deed ([] : List api_Deed))), (3, .d (.int .i64 30))], stab [], 0⟩ ?_ ?_
      · refine step (v := .d (eL (some 12) eapi_Deed ([] : List api_Deed))) rfl ?_
        refine step (v := .d (.int .i64 30)) rfl ?_
        exact RunOps.nil' (Norm.mk [] (by decide) (by decide) (by decide) ⟨.d _, .d _, trivial⟩ trivial)
      have hh := Option.some.inj h
      subst hh
      refine NWp.ret ?_
      show FQ _ _ _ _
      exact FQ.mkT (.inr rfl) (res_t (v := .d (eL (some 12) eapi_Deed ([] : List api_Deed))) rfl (res_t (v := .d (.int .i64 30)) rfl rfl)) (RV.d (RV.d trivial))
    · replace h := iteF hc24 h
      refine NWp.condF (t := (z22.bad || (!(seqB z22.s (⟨#[]⟩ : ByteArray))))) rfl hc24 ?_
      refine NWp.skip ?_
      refine NWp.opsJ ⟨tab [(2, .loc 0 0 z20.length), (3, .d (.int .i64 0))], stab [(0, .lst false (some 12) (List.map eapi_Deed z20))], 1⟩ ?_ ?_
      · refine step (v := .loc 0 0 z20.length) rfl ?_
        refine step (v := .loc 0 0 z20.length) rfl ?_
        refine step (v := .d (.int .i64 0)) rfl ?_
        exact RunOps.nil' (Norm.mk [0] (by decide) (by decide) (by decide) ⟨.loc 0 _ _ (show 0 < 1 by decide), .d _, trivial⟩ ⟨⟨show 0 < 1 by decide, _, rfl, .lst _ _ _⟩, trivial⟩)
      have hh := Option.some.inj h
      subst hh
      refine NWp.ret ?_
      show FQ _ _ _ _
      exact FQ.mkT (.inr rfl) (res_t (v := .loc 0 0 z20.length) rfl (res_t (v := .d (.int .i64 0)) rfl rfl)) (RV.loc (xs := z20) (e := eapi_Deed) rfl rfl (RV.d trivial))

theorem c_ref32_Same {a0 : (List api_Deed)} {a1 : (List api_Deed)} {r : Bool} (h : ref32_Same a0 a1 = some r) : PCall Try.prog 16 [eL (some 12) eapi_Deed a0, eL (some 12) eapi_Deed a1] (.bool r) := by
  refine PCall.introN ok16 (show 2 ≤ 26 by decide) ?_
  refine NWp.norm (s0 := ⟨tab [(0, .d (eL (some 12) eapi_Deed a0)), (1, .d (eL (some 12) eapi_Deed a1))], stab [], 0⟩) (Norm.mk [] (by decide) (by decide) (by decide) ⟨.d _, .d _, trivial⟩ trivial) ?_
  refine NWp.opsJ ⟨tab [(0, .d (eL (some 12) eapi_Deed a0)), (1, .d (eL (some 12) eapi_Deed a1))], stab [], 0⟩ ?_ ?_
  · refine step (v := .d (.bool false)) rfl ?_
    exact RunOps.nil' (Norm.mk [] (by decide) (by decide) (by decide) ⟨.d _, .d _, trivial⟩ trivial)
  refine NWp.seq ?_
  refine NWp.opsJ ⟨tab [(0, .d (eL (some 12) eapi_Deed a0)), (1, .d (eL (some 12) eapi_Deed a1)), (10, .d (.bool ((a0.length : Int) != (a1.length : Int))))], stab [], 0⟩ ?_ ?_
  · refine step (v := .d (eL (some 12) eapi_Deed a0)) rfl ?_
    refine step (v := .d (.int .i64 (a0.length : Int))) (st_len (xs := a0) (e := eapi_Deed) rfl) ?_
    refine step (v := .d (eL (some 12) eapi_Deed a1)) rfl ?_
    refine step (v := .d (.int .i64 (a1.length : Int))) (st_len (xs := a1) (e := eapi_Deed) rfl) ?_
    refine step (v := .d (.bool ((a0.length : Int) != (a1.length : Int)))) rfl ?_
    exact RunOps.nil' (Norm.mk [] (by decide) (by decide) (by decide) ⟨.d _, .d _, .d _, trivial⟩ trivial)
  by_cases hc1 : ((a0.length : Int) != (a1.length : Int)) = true
  · replace h := iteT hc1 h
    refine NWp.condT (t := ((a0.length : Int) != (a1.length : Int))) rfl hc1 ?_
    refine NWp.opsJ ⟨tab [(4, .d (.bool false))], stab [], 0⟩ ?_ ?_
    · refine step (v := .d (.bool false)) rfl ?_
      exact RunOps.nil' (Norm.mk [] (by decide) (by decide) (by decide) ⟨.d _, trivial⟩ trivial)
    have hh := Option.some.inj h
    subst hh
    refine NWp.ret ?_
    show FQ _ _ _ _
    exact FQ.mk1 (.inr rfl) (res_t (v := .d (.bool false)) rfl rfl) (RV.d trivial)
  · replace h := iteF hc1 h
    refine NWp.condF (t := ((a0.length : Int) != (a1.length : Int))) rfl hc1 ?_
    refine NWp.skip ?_
    refine NWp.seq ?_
    refine NWp.opsJ ⟨tab [(0, .d (eL (some 12) eapi_Deed a0)), (1, .d (eL (some 12) eapi_Deed a1)), (5, .d (.int .i64 0))], stab [], 0⟩ ?_ ?_
    · refine step (v := .d (.int .i64 0)) rfl ?_
      exact RunOps.nil' (Norm.mk [] (by decide) (by decide) (by decide) ⟨.d _, .d _, .d _, trivial⟩ trivial)
    obtain ⟨q11, hl, h⟩ := bindE h
    refine NWp.block ?_
    refine loop_forR (cntU (a0.length : Int)) (fun (i2 : Int) (qq : Unit) => ⟨tab [(0, .d (eL (some 12) eapi_Deed a0)), (1, .d (eL (some 12) eapi_Deed a1)), (5, .d (.int .i64 i2))], stab [], 0⟩) 0 (fun (qq : Unit) => ⟨tab [], stab [], 0⟩) Low low_step (r := r) hl (by unfold Low; omega) ?_ ?_ ?_ ?_
    · rintro i2 ⟨⟩ xr7 hinv5 hgo4 h
      show NWp _ _ _ _ _ ⟨tab [(0, .d (eL (some 12) eapi_Deed a0)), (1, .d (eL (some 12) eapi_Deed a1)), (5, .d (.int .i64 i2))], stab [], 0⟩
      have hc6 : decide (i2 < (a0.length : Int)) = true := decide_eq_true hgo4
      refine NWp.seq ?_
      refine NWp.opsJ ⟨tab [(0, .d (eL (some 12) eapi_Deed a0)), (1, .d (eL (some 12) eapi_Deed a1)), (5, .d (.int .i64 i2)), (13, .d (.int .i64 (a0.length : Int))), (14, .d (.bool (decide (i2 < (a0.length : Int)))))], stab [], 0⟩ ?_ ?_
      · refine step (v := .d (.int .i64 i2)) rfl ?_
        refine step (v := .d (eL (some 12) eapi_Deed a0)) rfl ?_
        refine step (v := .d (.int .i64 (a0.length : Int))) (st_len (xs := a0) (e := eapi_Deed) rfl) ?_
        refine step (v := .d (.bool (decide (i2 < (a0.length : Int))))) rfl ?_
        exact RunOps.nil' (Norm.mk [] (by decide) (by decide) (by decide) ⟨.d _, .d _, .d _, .d _, .d _, trivial⟩ trivial)
      refine NWp.rng 13 rfl fun hB3 => ?_
      refine NWp.condT (t := decide (i2 < (a0.length : Int))) rfl hc6 ?_
      refine NWp.skip ?_
      refine NWp.seq ?_
      refine NWp.block ?_
      obtain ⟨x8, hx8, h⟩ := bindE h
      obtain ⟨x9, hx9, h⟩ := bindE h
      refine NWp.opsJ ⟨tab [(0, .d (eL (some 12) eapi_Deed a0)), (1, .d (eL (some 12) eapi_Deed a1)), (5, .d (.int .i64 i2)), (25, .d (.bool (!(x8 == x9))))], stab [], 0⟩ ?_ ?_
      · refine step (v := .d (eL (some 12) eapi_Deed a0)) rfl ?_
        refine step (v := .d (.int .i64 i2)) rfl ?_
        refine step (v := .d (.cptr (some 12) (eapi_Deed x8) 0)) (st_iaddr (xs := a0) (e := eapi_Deed) hx8 rfl rfl) ?_
        refine step (v := .d (eapi_Deed x8)) rfl ?_
        refine step (v := .d (eL (some 12) eapi_Deed a1)) rfl ?_
        refine step (v := .d (.int .i64 i2)) rfl ?_
        refine step (v := .d (.cptr (some 12) (eapi_Deed x9) 0)) (st_iaddr (xs := a1) (e := eapi_Deed) hx9 rfl rfl) ?_
        refine step (v := .d (eapi_Deed x9)) rfl ?_
        refine step (v := .d (.bool (!(x8 == x9)))) (st_eqS (neg := true) rfl rfl (eqS_api_Deed x8 x9)) ?_
        exact RunOps.nil' (Norm.mk [] (by decide) (by decide) (by decide) ⟨.d _, .d _, .d _, .d _, trivial⟩ trivial)
      by_cases hc10 : (!(x8 == x9)) = true
      · replace h := iteT hc10 h
        refine NWp.condT (t := (!(x8 == x9))) rfl hc10 ?_
        refine NWp.opsJ ⟨tab [(4, .d (.bool false))], stab [], 0⟩ ?_ ?_
        · refine step (v := .d (.bool false)) rfl ?_
          exact RunOps.nil' (Norm.mk [] (by decide) (by decide) (by decide) ⟨.d _, trivial⟩ trivial)
        obtain ⟨r11, kr11, hr⟩ := mapE (o := some false) (g := Br.ret) h
        subst hr
        have h := kr11
        have hh := Option.some.inj h
        subst hh
        refine NWp.ret ?_
        refine And.intro (fun hn => nomatch hn) ?_
        intro hq
        have hq := hq.symm
        subst hq
        show FQ _ _ _ _
        exact FQ.mk1 (.inr rfl) (res_t (v := .d (.bool false)) rfl rfl) (RV.d trivial)
      · replace h := iteF hc10 h
        refine NWp.condF (t := (!(x8 == x9))) rfl hc10 ?_
        refine NWp.skip ?_
        have hh := Option.some.inj h
        subst hh
        refine NWp.opsE ⟨tab [(0, .d (eL (some 12) eapi_Deed a0)), (1, .d (eL (some 12) eapi_Deed a1)), (5, .d (.int .i64 (i2 + 1)))], stab [], 0⟩ ?_ ?_
        · refine step (v := .d (.int .i64 i2)) rfl ?_
          refine step (v := .d (.int .i64 (i2 + 1))) (st_inc (inc_ok hinv5 hgo4 hB3) rfl rfl) ?_
          refine step (v := .d (.int .i64 (i2 + 1))) rfl ?_
          exact RunOps.nil' (Norm.mk [] (by decide) (by decide) (by decide) ⟨.d _, .d _, .d _, trivial⟩ trivial)
        exact And.intro rfl rfl
    · rintro i2 ⟨⟩ hinv5 hgo4
      show NWp _ _ _ _ _ ⟨tab [(0, .d (eL (some 12) eapi_Deed a0)), (1, .d (eL (some 12) eapi_Deed a1)), (5, .d (.int .i64 i2))], stab [], 0⟩
      have hc6 : ¬ (decide (i2 < (a0.length : Int)) = true) := fun hq => hgo4 (of_decide_eq_true hq)
      refine NWp.seq ?_
      refine NWp.opsJ ⟨tab [(0, .d (eL (some 12) eapi_Deed a0)), (1, .d (eL (some 12) eapi_Deed a1)), (5, .d (.int .i64 i2)), (14, .d (.bool (decide (i2 < (a0.length : Int)))))], stab [], 0⟩ ?_ ?_
      · refine step (v := .d (.int .i64 i2)) rfl ?_
        refine step (v := .d (eL (some 12) eapi_Deed a0)) rfl ?_
        refine step (v := .d (.int .i64 (a0.length : Int))) (st_len (xs := a0) (e := eapi_Deed) rfl) ?_
        refine step (v := .d (.bool (decide (i2 < (a0.length : Int))))) rfl ?_
        exact RunOps.nil' (Norm.mk [] (by decide) (by decide) (by decide) ⟨.d _, .d _, .d _, .d _, trivial⟩ trivial)
      refine NWp.condF (t := decide (i2 < (a0.length : Int))) rfl hc6 ?_
      refine NWp.norm (s0 := ⟨tab [], stab [], 0⟩) (Norm.mk [] (by decide) (by decide) (by decide) trivial trivial) ?_
      refine NWp.exit ?_
      exact And.intro rfl rfl
    · intro r' hq
      subst hq
      exact Option.some.inj h
    rintro ⟨⟩ rfl
    refine NWp.opsJ ⟨tab [(4, .d (.bool true))], stab [], 0⟩ ?_ ?_
    · refine step (v := .d (.bool true)) rfl ?_
      exact RunOps.nil' (Norm.mk [] (by decide) (by decide) (by decide) ⟨.d _, trivial⟩ trivial)
    have hh := Option.some.inj h
    subst hh
    refine NWp.ret ?_
    show FQ _ _ _ _
    exact FQ.mk1 (.inr rfl) (res_t (v := .d (.bool true)) rfl rfl) (RV.d trivial)

theorem c_law32_awake  {r : Bool} (h : law32_awake  = some r) : PCall Try.prog 13 [] (.bool r) := by
  refine PCall.introN ok13 (show 0 ≤ 36 by decide) ?_
  refine NWp.norm (s0 := ⟨tab [], stab [], 0⟩) (Norm.mk [] (by decide) (by decide) (by decide) trivial trivial) ?_
  refine NWp.opsJ ⟨tab [], stab [], 0⟩ ?_ ?_
  · refine step (v := .d (.bool false)) rfl ?_
    exact RunOps.nil' (Norm.mk [] (by decide) (by decide) (by decide) trivial trivial)
  refine NWp.opsJ ⟨tab [(1, .d (eL (some 12) eapi_Deed ([(api_Deed.mk 0 300 false (A8.mk 0 0 1 0 0 0 0 0) (⟨#[]⟩ : ByteArray)), (api_Deed.mk 3 0 true (A8.mk 0 0 0 0 0 0 0 0) (⟨#[]⟩ : ByteArray))] : List api_Deed)))], stab [], 0⟩ ?_ ?_
  · refine step (v := .d (eA8 (D.int .u16) (A8.mk 0 0 1 0 0 0 0 0))) (st_build (ds := [.int .u16 0, .int .u16 0, .int .u16 1, .int .u16 0, .int .u16 0, .int .u16 0, .int .u16 0, .int .u16 0]) rfl) ?_
    refine step (v := .d (eapi_Deed (api_Deed.mk 0 300 false (A8.mk 0 0 1 0 0 0 0 0) (⟨#[]⟩ : ByteArray)))) (st_build (ds := [.int .i64 0, .int .i64 300, .bool false, .int .u16 0, .int .u16 0, .int .u16 1, .int .u16 0, .int .u16 0, .int .u16 0, .int .u16 0, .int .u16 0, .str (⟨#[]⟩ : ByteArray)]) rfl) ?_
    refine step (v := .d (eapi_Deed (api_Deed.mk 3 0 true (A8.mk 0 0 0 0 0 0 0 0) (⟨#[]⟩ : ByteArray)))) (st_build (ds := [.int .i64 3, .int .i64 0, .bool true, .int .u16 0, .int .u16 0, .int .u16 0, .int .u16 0, .int .u16 0, .int .u16 0, .int .u16 0, .int .u16 0, .str (⟨#[]⟩ : ByteArray)]) rfl) ?_
    refine step (v := .d (eL (some 12) eapi_Deed ([(api_Deed.mk 0 300 false (A8.mk 0 0 1 0 0 0 0 0) (⟨#[]⟩ : ByteArray)), (api_Deed.mk 3 0 true (A8.mk 0 0 0 0 0 0 0 0) (⟨#[]⟩ : ByteArray))] : List api_Deed))) rfl ?_
    refine step (v := .d (eL (some 12) eapi_Deed ([(api_Deed.mk 0 300 false (A8.mk 0 0 1 0 0 0 0 0) (⟨#[]⟩ : ByteArray)), (api_Deed.mk 3 0 true (A8.mk 0 0 0 0 0 0 0 0) (⟨#[]⟩ : ByteArray))] : List api_Deed))) rfl ?_
    exact RunOps.nil' (Norm.mk [] (by decide) (by decide) (by decide) ⟨.d _, trivial⟩ trivial)
  obtain ⟨r1, hr1, h⟩ := bindE h
  refine NWp.opsJ ⟨tab [(1, .d (eL (some 12) eapi_Deed ([(api_Deed.mk 0 300 false (A8.mk 0 0 1 0 0 0 0 0) (⟨#[]⟩ : ByteArray)), (api_Deed.mk 3 0 true (A8.mk 0 0 0 0 0 0 0 0) (⟨#[]⟩ : ByteArray))] : List api_Deed))), (2, .d (.str r1.1)), (3, .d (.int .i64 r1.2))], stab [], 0⟩ ?_ ?_
  · refine step (v := .d (eL (some 12) eapi_Deed ([(api_Deed.mk 0 300 false (A8.mk 0 0 1 0 0 0 0 0) (⟨#[]⟩ : ByteArray)), (api_Deed.mk 3 0 true (A8.mk 0 0 0 0 0 0 0 0) (⟨#[]⟩ : ByteArray))] : List api_Deed))) rfl ?_
    refine stepC (r := .tup [.str r1.1, .int .i64 r1.2]) (ArgsOk.dt ArgsOk.nil') (c_save_Encode hr1) ?_
    refine step (v := .d (.tup [.str r1.1, .int .i64 r1.2])) rfl ?_
    refine step (v := .d (.str r1.1)) rfl ?_
    refine step (v := .d (.int .i64 r1.2)) rfl ?_
    refine step (v := .d (.str r1.1)) rfl ?_
    refine step (v := .d (.int .i64 r1.2)) rfl ?_
    exact RunOps.nil' (Norm.mk [] (by decide) (by decide) (by decide) ⟨.d _, .d _, .d _, trivial⟩ trivial)
  obtain ⟨r2, hr2, h⟩ := bindE h
  refine NWp.opsJ ⟨tab [(1, .d (eL (some 12) eapi_Deed ([(api_Deed.mk 0 300 false (A8.mk 0 0 1 0 0 0 0 0) (⟨#[]⟩ : ByteArray)), (api_Deed.mk 3 0 true (A8.mk 0 0 0 0 0 0 0 0) (⟨#[]⟩ : ByteArray))] : List api_Deed))), (2, .d (.str r1.1)), (3, .d (.int .i64 r1.2)), (4, .d (eL (some 12) eapi_Deed r2.1)), (5, .d (.int .i64 r2.2))], stab [], 0⟩ ?_ ?_
  · refine step (v := .d (.str r1.1)) rfl ?_
    refine stepC (r := .tup [eL (some 12) eapi_Deed r2.1, .int .i64 r2.2]) (ArgsOk.dt ArgsOk.nil') (c_save_Decode hr2) ?_
    refine step (v := .d (.tup [eL (some 12) eapi_Deed r2.1, .int .i64 r2.2])) rfl ?_
    refine step (v := .d (eL (some 12) eapi_Deed r2.1)) rfl ?_
    refine step (v := .d (.int .i64 r2.2)) rfl ?_
    refine step (v := .d (eL (some 12) eapi_Deed r2.1)) rfl ?_
    refine step (v := .d (.int .i64 r2.2)) rfl ?_
    exact RunOps.nil' (Norm.mk [] (by decide) (by decide) (by decide) ⟨.d _, .d _, .d _, .d _, .d _, trivial⟩ trivial)
  obtain ⟨y7, hv, h⟩ := bindE h
  refine NWp.opsJ ⟨tab [(0, .d (.bool y7))], stab [], 0⟩ ?_ ?_
  · refine step (v := .d (.int .i64 r1.2)) rfl ?_
    refine step (v := .d (.bool (r1.2 == 0))) rfl ?_
    refine step (v := .d (.bool (r1.2 == 0))) rfl ?_
    by_cases hg3 : (r1.2 == 0) = true
    · replace hv := iteT hg3 hv
      refine stepG (c := (r1.2 == 0)) rfl hg3 ?_
      refine step (v := .d (.int .i64 r2.2)) rfl ?_
      refine stepG (c := (r1.2 == 0)) rfl hg3 ?_
      refine step (v := .d (.bool (r2.2 == 0))) rfl ?_
      refine step (v := .d (.bool (r2.2 == 0))) (st_pickT (b := (r1.2 == 0)) rfl hg3 rfl) ?_
      refine step (v := .d (.bool (r2.2 == 0))) rfl ?_
      by_cases hg4 : (r2.2 == 0) = true
      · replace hv := iteT hg4 hv
        obtain ⟨r5, hr5, hv⟩ := bindE hv
        refine stepG (c := (r2.2 == 0)) rfl hg4 ?_
        refine step (v := .d (eL (some 12) eapi_Deed ([(api_Deed.mk 0 300 false (A8.mk 0 0 1 0 0 0 0 0) (⟨#[]⟩ : ByteArray)), (api_Deed.mk 3 0 true (A8.mk 0 0 0 0 0 0 0 0) (⟨#[]⟩ : ByteArray))] : List api_Deed))) rfl ?_
        refine stepG (c := (r2.2 == 0)) rfl hg4 ?_
        refine step (v := .d (eL (some 12) eapi_Deed r2.1)) rfl ?_
        refine stepG (c := (r2.2 == 0)) rfl hg4 ?_
        refine stepC (r := .bool r5) (ArgsOk.dt (ArgsOk.dt ArgsOk.nil')) (c_ref32_Same hr5) ?_
        refine step (v := .d (.bool r5)) (st_pickT (b := (r2.2 == 0)) rfl hg4 rfl) ?_
        refine step (v := .d (.bool r5)) rfl ?_
        by_cases hg6 : r5 = true
        · replace hv := iteT hg6 hv
          refine stepG (c := r5) rfl hg6 ?_
          refine step (v := .d (.str r1.1)) rfl ?_
          refine stepG (c := r5) rfl hg6 ?_
          refine step (v := .d (.int .i64 (r1.1.size : Int))) rfl ?_
          refine stepG (c := r5) rfl hg6 ?_
          refine step (v := .d (.bool ((r1.1.size : Int) == 16))) rfl ?_
          refine step (v := .d (.bool ((r1.1.size : Int) == 16))) (st_pickT (b := r5) rfl hg6 rfl) ?_
          refine step (v := .d (.bool ((r1.1.size : Int) == 16))) rfl ?_
          have hh := Option.some.inj hv
          subst hh
          exact RunOps.nil' (Norm.mk [] (by decide) (by decide) (by decide) ⟨.d _, trivial⟩ trivial)
        · replace hv := iteF hg6 hv
          refine stepX (c := r5) rfl hg6 ?_
          refine stepX (c := r5) rfl hg6 ?_
          refine stepX (c := r5) rfl hg6 ?_
          refine step (v := .d (.bool false)) (st_pickF (b := r5) rfl hg6 rfl) ?_
          refine step (v := .d (.bool false)) rfl ?_
          have hh := Option.some.inj hv
          subst hh
          exact RunOps.nil' (Norm.mk [] (by decide) (by decide) (by decide) ⟨.d _, trivial⟩ trivial)
      · replace hv := iteF hg4 hv
        refine stepX (c := (r2.2 == 0)) rfl hg4 ?_
        refine stepX (c := (r2.2 == 0)) rfl hg4 ?_
        refine stepX (c := (r2.2 == 0)) rfl hg4 ?_
        refine step (v := .d (.bool false)) (st_pickF (b := (r2.2 == 0)) rfl hg4 rfl) ?_
        refine step (v := .d (.bool false)) rfl ?_
        refine stepX (c := false) rfl (by decide) ?_
        refine stepX (c := false) rfl (by decide) ?_
        refine stepX (c := false) rfl (by decide) ?_
        refine step (v := .d (.bool false)) (st_pickF (b := false) rfl (by decide) rfl) ?_
        refine step (v := .d (.bool false)) rfl ?_
        have hh := Option.some.inj hv
        subst hh
        exact RunOps.nil' (Norm.mk [] (by decide) (by decide) (by decide) ⟨.d _, trivial⟩ trivial)
    · replace hv := iteF hg3 hv
      refine stepX (c := (r1.2 == 0)) rfl hg3 ?_
      refine stepX (c := (r1.2 == 0)) rfl hg3 ?_
      refine step (v := .d (.bool false)) (st_pickF (b := (r1.2 == 0)) rfl hg3 rfl) ?_
      refine step (v := .d (.bool false)) rfl ?_
      refine stepX (c := false) rfl (by decide) ?_
      refine stepX (c := false) rfl (by decide) ?_
      refine stepX (c := false) rfl (by decide) ?_
      refine step (v := .d (.bool false)) (st_pickF (b := false) rfl (by decide) rfl) ?_
      refine step (v := .d (.bool false)) rfl ?_
      refine stepX (c := false) rfl (by decide) ?_
      refine stepX (c := false) rfl (by decide) ?_
      refine stepX (c := false) rfl (by decide) ?_
      refine step (v := .d (.bool false)) (st_pickF (b := false) rfl (by decide) rfl) ?_
      refine step (v := .d (.bool false)) rfl ?_
      have hh := Option.some.inj hv
      subst hh
      exact RunOps.nil' (Norm.mk [] (by decide) (by decide) (by decide) ⟨.d _, trivial⟩ trivial)
  have hh := Option.some.inj h
  subst hh
  refine NWp.ret ?_
  show FQ _ _ _ _
  exact FQ.mk1 (.inr rfl) (res_t (v := .d (.bool y7)) rfl rfl) (RV.d trivial)

theorem c_ref32_number {a0 : ByteArray} {a1 : Int} {r : (Int × Int)} (h : ref32_number a0 a1 = some r) : PCall Try.prog 56 [.str a0, .int .i64 a1] (.tup [.int .i64 r.1, .int .i64 r.2]) := by
  refine PCall.introN ok56 (show 2 ≤ 40 by decide) ?_
  refine NWp.norm (s0 := ⟨tab [(0, .d (.str a0)), (1, .d (.int .i64 a1))], stab [], 0⟩) (Norm.mk [] (by decide) (by decide) (by decide) ⟨.d _, .d _, trivial⟩ trivial) ?_
  refine NWp.opsJ ⟨tab [(0, .d (.str a0)), (1, .d (.int .i64 a1))], stab [], 0⟩ ?_ ?_
  · refine step (v := .d (.int .i64 0)) rfl ?_
    refine step (v := .d (.int .i64 0)) rfl ?_
    exact RunOps.nil' (Norm.mk [] (by decide) (by decide) (by decide) ⟨.d _, .d _, trivial⟩ trivial)
  refine NWp.opsJ ⟨tab [(0, .d (.str a0)), (1, .d (.int .i64 a1)), (6, .d (.int .i64 0))], stab [], 0⟩ ?_ ?_
  · refine step (v := .d (.int .i64 0)) rfl ?_
    exact RunOps.nil' (Norm.mk [] (by decide) (by decide) (by decide) ⟨.d _, .d _, .d _, trivial⟩ trivial)
  refine NWp.opsJ ⟨tab [(0, .d (.str a0)), (1, .d (.int .i64 a1)), (6, .d (.int .i64 0)), (7, .d (.int .i64 1))], stab [], 0⟩ ?_ ?_
  · refine step (v := .d (.int .i64 1)) rfl ?_
    exact RunOps.nil' (Norm.mk [] (by decide) (by decide) (by decide) ⟨.d _, .d _, .d _, .d _, trivial⟩ trivial)
  refine NWp.seq ?_
  refine NWp.opsJ ⟨tab [(0, .d (.str a0)), (1, .d (.int .i64 a1)), (6, .d (.int .i64 0)), (7, .d (.int .i64 1)), (8, .d (.int .i64 a1))], stab [], 0⟩ ?_ ?_
  · refine step (v := .d (.int .i64 a1)) rfl ?_
    refine step (v := .d (.int .i64 a1)) rfl ?_
    exact RunOps.nil' (Norm.mk [] (by decide) (by decide) (by decide) ⟨.d _, .d _, .d _, .d _, .d _, trivial⟩ trivial)
  obtain ⟨q12, hl, h⟩ := bindE h
  refine NWp.block ?_
  refine loop_whR (fun (qq : (Int × Int × Int)) => ⟨tab [(0, .d (.str a0)), (1, .d (.int .i64 a1)), (6, .d (.int .i64 qq.1)), (7, .d (.int .i64 qq.2.1)), (8, .d (.int .i64 qq.2.2))], stab [], 0⟩) 0 (fun (qq : (Int × Int × Int)) => ⟨tab [], stab [], 0⟩) (r := r) hl ?_ ?_ ?_
  · rintro ⟨i1, i2, i3⟩ xr4 h
    show NWp _ _ _ _ _ ⟨tab [(0, .d (.str a0)), (1, .d (.int .i64 a1)), (6, .d (.int .i64 i1)), (7, .d (.int .i64 i2)), (8, .d (.int .i64 i3))], stab [], 0⟩
    refine NWp.seq ?_
    refine NWp.opsJ ⟨tab [(0, .d (.str a0)), (1, .d (.int .i64 a1)), (6, .d (.int .i64 i1)), (7, .d (.int .i64 i2)), (8, .d (.int .i64 i3)), (19, .d (.bool ((decide (i3 < (a0.size : Int))) && (decide (i3 < (IntKind.i64.wrap (a1 + 5)))))))], stab [], 0⟩ ?_ ?_
    · refine step (v := .d (.int .i64 i3)) rfl ?_
      refine step (v := .d (.str a0)) rfl ?_
      refine step (v := .d (.int .i64 (a0.size : Int))) rfl ?_
      refine step (v := .d (.bool (decide (i3 < (a0.size : Int))))) rfl ?_
      refine step (v := .d (.bool (decide (i3 < (a0.size : Int))))) rfl ?_
      by_cases hg5 : decide (i3 < (a0.size : Int)) = true
      · refine stepG (c := decide (i3 < (a0.size : Int))) rfl hg5 ?_
        refine step (v := .d (.int .i64 i3)) rfl ?_
        refine stepG (c := decide (i3 < (a0.size : Int))) rfl hg5 ?_
        refine step (v := .d (.int .i64 a1)) rfl ?_
        refine stepG (c := decide (i3 < (a0.size : Int))) rfl hg5 ?_
        refine step (v := .d (.int .i64 (IntKind.i64.wrap (a1 + 5)))) rfl ?_
        refine stepG (c := decide (i3 < (a0.size : Int))) rfl hg5 ?_
        refine step (v := .d (.bool (decide (i3 < (IntKind.i64.wrap (a1 + 5)))))) rfl ?_
        refine step (v := .d (.bool (decide (i3 < (IntKind.i64.wrap (a1 + 5)))))) (st_pickT (b := decide (i3 < (a0.size : Int))) rfl hg5 rfl) ?_
        exact RunOps.nil' (Norm.mk [] (by decide) (by decide) (by decide) ⟨.d _, .d _, .d _, .d _, .d _, .eq (by simp [hg5]), trivial⟩ trivial)
      · refine stepX (c := decide (i3 < (a0.size : Int))) rfl hg5 ?_
        refine stepX (c := decide (i3 < (a0.size : Int))) rfl hg5 ?_
        refine stepX (c := decide (i3 < (a0.size : Int))) rfl hg5 ?_
        refine stepX (c := decide (i3 < (a0.size : Int))) rfl hg5 ?_
        refine step (v := .d (.bool false)) (st_pickF (b := decide (i3 < (a0.size : Int))) rfl hg5 rfl) ?_
        exact RunOps.nil' (Norm.mk [] (by decide) (by decide) (by decide) ⟨.d _, .d _, .d _, .d _, .d _, .eq (by simp [hg5]), trivial⟩ trivial)
    by_cases hc6 : ((decide (i3 < (a0.size : Int))) && (decide (i3 < (IntKind.i64.wrap (a1 + 5))))) = true
    · replace h := iteT hc6 h
      refine NWp.condT (t := ((decide (i3 < (a0.size : Int))) && (decide (i3 < (IntKind.i64.wrap (a1 + 5)))))) rfl hc6 ?_
      refine NWp.skip ?_
      refine NWp.seq ?_
      refine NWp.block ?_
      obtain ⟨b7, hb7, h⟩ := bindE h
      refine NWp.opsJ ⟨tab [(0, .d (.str a0)), (1, .d (.int .i64 a1)), (6, .d (.int .i64 (IntKind.i64.wrap (i1 + (IntKind.i64.wrap ((IntKind.i64.wrap (b7.tmod 128)) * i2)))))), (7, .d (.int .i64 i2)), (8, .d (.int .i64 i3))], stab [], 0⟩ ?_ ?_
      · refine step (v := .d (.int .i64 i1)) rfl ?_
        refine step (v := .d (.str a0)) rfl ?_
        refine step (v := .d (.int .i64 i3)) rfl ?_
        refine step (v := .d (.int .u8 b7)) (st_idxS hb7 rfl rfl) ?_
        refine step (v := .d (.int .u8 (b7.tmod 128))) rfl ?_
        refine step (v := .d (.int .i64 (IntKind.i64.wrap (b7.tmod 128)))) rfl ?_
        refine step (v := .d (.int .i64 i2)) rfl ?_
        refine step (v := .d (.int .i64 (IntKind.i64.wrap ((IntKind.i64.wrap (b7.tmod 128)) * i2)))) rfl ?_
        refine step (v := .d (.int .i64 (IntKind.i64.wrap (i1 + (IntKind.i64.wrap ((IntKind.i64.wrap (b7.tmod 128)) * i2)))))) rfl ?_
        refine step (v := .d (.int .i64 (IntKind.i64.wrap (i1 + (IntKind.i64.wrap ((IntKind.i64.wrap (b7.tmod 128)) * i2)))))) rfl ?_
        exact RunOps.nil' (Norm.mk [] (by decide) (by decide) (by decide) ⟨.d _, .d _, .d _, .d _, .d _, trivial⟩ trivial)
      refine NWp.opsJ ⟨tab [(0, .d (.str a0)), (1, .d (.int .i64 a1)), (6, .d (.int .i64 (IntKind.i64.wrap (i1 + (IntKind.i64.wrap ((IntKind.i64.wrap (b7.tmod 128)) * i2)))))), (7, .d (.int .i64 (IntKind.i64.wrap (i2 * 128)))), (8, .d (.int .i64 i3))], stab [], 0⟩ ?_ ?_
      · refine step (v := .d (.int .i64 i2)) rfl ?_
        refine step (v := .d (.int .i64 (IntKind.i64.wrap (i2 * 128)))) rfl ?_
        refine step (v := .d (.int .i64 (IntKind.i64.wrap (i2 * 128)))) rfl ?_
        exact RunOps.nil' (Norm.mk [] (by decide) (by decide) (by decide) ⟨.d _, .d _, .d _, .d _, .d _, trivial⟩ trivial)
      refine NWp.opsJ ⟨tab [(0, .d (.str a0)), (1, .d (.int .i64 a1)), (6, .d (.int .i64 (IntKind.i64.wrap (i1 + (IntKind.i64.wrap ((IntKind.i64.wrap (b7.tmod 128)) * i2)))))), (7, .d (.int .i64 (IntKind.i64.wrap (i2 * 128)))), (8, .d (.int .i64 i3)), (36, .d (.bool (decide (b7 < 128))))], stab [], 0⟩ ?_ ?_
      · refine step (v := .d (.str a0)) rfl ?_
        refine step (v := .d (.int .i64 i3)) rfl ?_
        refine step (v := .d (.int .u8 b7)) (st_idxS hb7 rfl rfl) ?_
        refine step (v := .d (.bool (decide (b7 < 128)))) rfl ?_
        exact RunOps.nil' (Norm.mk [] (by decide) (by decide) (by decide) ⟨.d _, .d _, .d _, .d _, .d _, .d _, trivial⟩ trivial)
      by_cases hc8 : decide (b7 < 128) = true
      · replace h := iteT hc8 h
        refine NWp.condT (t := decide (b7 < 128)) rfl hc8 ?_
        refine NWp.opsJ ⟨tab [(4, .d (.int .i64 (IntKind.i64.wrap (i1 + (IntKind.i64.wrap ((IntKind.i64.wrap (b7.tmod 128)) * i2)))))), (5, .d (.int .i64 (IntKind.i64.wrap (i3 + 1))))], stab [], 0⟩ ?_ ?_
        · refine step (v := .d (.int .i64 (IntKind.i64.wrap (i1 + (IntKind.i64.wrap ((IntKind.i64.wrap (b7.tmod 128)) * i2)))))) rfl ?_
          refine step (v := .d (.int .i64 i3)) rfl ?_
          refine step (v := .d (.int .i64 (IntKind.i64.wrap (i3 + 1)))) rfl ?_
          refine step (v := .d (.int .i64 (IntKind.i64.wrap (i1 + (IntKind.i64.wrap ((IntKind.i64.wrap (b7.tmod 128)) * i2)))))) rfl ?_
          refine step (v := .d (.int .i64 (IntKind.i64.wrap (i3 + 1)))) rfl ?_
          exact RunOps.nil' (Norm.mk [] (by decide) (by decide) (by decide) ⟨.d _, .d _, trivial⟩ trivial)
        obtain ⟨r9, kr9, hr⟩ := mapE (o := some (IntKind.i64.wrap (i1 + (IntKind.i64.wrap ((IntKind.i64.wrap (b7.tmod 128)) * i2))), IntKind.i64.wrap (i3 + 1))) (g := Br.ret) h
        subst hr
        have h := kr9
        have hh := Option.some.inj h
        subst hh
        refine NWp.ret ?_
        refine And.intro (fun hn => nomatch hn) ?_
        intro hq
        have hq := hq.symm
        subst hq
        show FQ _ _ _ _
        exact FQ.mkT (.inr rfl) (res_t (v := .d (.int .i64 (IntKind.i64.wrap (i1 + (IntKind.i64.wrap ((IntKind.i64.wrap (b7.tmod 128)) * i2)))))) rfl (res_t (v := .d (.int .i64 (IntKind.i64.wrap (i3 + 1)))) rfl rfl)) (RV.d (RV.d trivial))
      · replace h := iteF hc8 h
        refine NWp.condF (t := decide (b7 < 128)) rfl hc8 ?_
        refine NWp.skip ?_
        have hh := Option.some.inj h
        subst hh
        refine NWp.opsE ⟨tab [(0, .d (.str a0)), (1, .d (.int .i64 a1)), (6, .d (.int .i64 (IntKind.i64.wrap (i1 + (IntKind.i64.wrap ((IntKind.i64.wrap (b7.tmod 128)) * i2)))))), (7, .d (.int .i64 (IntKind.i64.wrap (i2 * 128)))), (8, .d (.int .i64 (IntKind.i64.wrap (i3 + 1))))], stab [], 0⟩ ?_ ?_
        · refine step (v := .d (.int .i64 i3)) rfl ?_
          refine step (v := .d (.int .i64 (IntKind.i64.wrap (i3 + 1)))) rfl ?_
          refine step (v := .d (.int .i64 (IntKind.i64.wrap (i3 + 1)))) rfl ?_
          exact RunOps.nil' (Norm.mk [] (by decide) (by decide) (by decide) ⟨.d _, .d _, .d _, .d _, .d _, trivial⟩ trivial)
        exact And.intro rfl rfl
    · replace h := iteF hc6 h
      refine NWp.condF (t := ((decide (i3 < (a0.size : Int))) && (decide (i3 < (IntKind.i64.wrap (a1 + 5)))))) rfl hc6 ?_
      have hh := Option.some.inj h
      subst hh
      refine NWp.norm (s0 := ⟨tab [], stab [], 0⟩) (Norm.mk [] (by decide) (by decide) (by decide) trivial trivial) ?_
      refine NWp.exit ?_
      exact And.intro rfl rfl
  · intro r' hq
    subst hq
    exact Option.some.inj h
  rintro ⟨z9, z10, z11⟩ rfl
  refine NWp.opsJ ⟨tab [(4, .d (.int .i64 0)), (5, .d (.int .i64 (-1)))], stab [], 0⟩ ?_ ?_
  · refine step (v := .d (.int .i64 0)) rfl ?_
    refine step (v := .d (.int .i64 (-1))) rfl ?_
    exact RunOps.nil' (Norm.mk [] (by decide) (by decide) (by decide) ⟨.d _, .d _, trivial⟩ trivial)
  have hh := Option.some.inj h
  subst hh
  refine NWp.ret ?_
  show FQ _ _ _ _
  exact FQ.mkT (.inr rfl) (res_t (v := .d (.int .i64 0)) rfl (res_t (v := .d (.int .i64 (-1))) rfl rfl)) (RV.d (RV.d trivial))

theorem c_ref32_Number_s {self : Int → Option (List Int)} (hself : ∀ (a0 : Int) (r : (List Int)), self a0 = some r → SCall Try.prog 62 [.d (.int .i64 a0)] (stab []) 0 (.loc 0 0 r.length) (stab [(0, .lst true none (List.map (D.int .u8) r))]) 1) {a0 : Int} {r : (List Int)} (h : ref32_Number_s self a0 = some r) : SCall Try.prog 62 [.d (.int .i64 a0)] (stab []) 0 (.loc 0 0 r.length) (stab [(0, .lst true none (List.map (D.int .u8) r))]) 1 := by
  refine SCall.introN (bl := []) (bl' := [(0, .lst true none (List.map (D.int .u8) r))]) ok62 (show 1 ≤ 17 by decide) rfl ?_
  refine NWp.norm (s0 := ⟨tab [(0, .d (.int .i64 a0))], stab [], 0⟩) (Norm.mk [] (by decide) (by decide) (by decide) ⟨.d _, trivial⟩ trivial) ?_
  refine NWp.opsJ ⟨tab [(0, .d (.int .i64 a0))], stab [], 0⟩ ?_ ?_
  · refine step (v := .d (.nils)) rfl ?_
    exact RunOps.nil' (Norm.mk [] (by decide) (by decide) (by decide) ⟨.d _, trivial⟩ trivial)
  refine NWp.seq ?_
  refine NWp.opsJ ⟨tab [(0, .d (.int .i64 a0)), (4, .d (.bool (decide (a0 < 128))))], stab [], 0⟩ ?_ ?_
  · refine step (v := .d (.int .i64 a0)) rfl ?_
    refine step (v := .d (.bool (decide (a0 < 128)))) rfl ?_
    exact RunOps.nil' (Norm.mk [] (by decide) (by decide) (by decide) ⟨.d _, .d _, trivial⟩ trivial)
  by_cases hc1 : decide (a0 < 128) = true
  · replace h := iteT hc1 h
    refine NWp.condT (t := decide (a0 < 128)) rfl hc1 ?_
    refine NWp.opsJ ⟨tab [(2, .loc 0 0 (([IntKind.u8.wrap a0] : List Int).length))], stab [(0, .lst true none (List.map (D.int .u8) ([IntKind.u8.wrap a0] : List Int)))], 1⟩ ?_ ?_
    · refine step (v := .d (.int .i64 a0)) rfl ?_
      refine step (v := .d (.int .u8 (IntKind.u8.wrap a0))) rfl ?_
      refine step (v := .loc 0 0 (([IntKind.u8.wrap a0] : List Int).length)) (σ' := (upd (stab []) 0 (some (.lst true none (List.map (D.int .u8) ([IntKind.u8.wrap a0] : List Int)))))) (n' := 1) rfl ?_
      refine step (v := .loc 0 0 (([IntKind.u8.wrap a0] : List Int).length)) rfl ?_
      exact RunOps.nil' (Norm.mk [0] (by decide) (by decide) (by decide) ⟨.loc 0 _ _ (show 0 < 1 by decide), trivial⟩ ⟨⟨show 0 < 1 by decide, _, rfl, .lst _ _ _⟩, trivial⟩)
    have hh := Option.some.inj h
    subst hh
    refine NWp.ret ?_
    exact ⟨.inr rfl, _, rfl, rfl, AllS.sub ⟨rfl, trivial⟩, rfl⟩
  · replace h := iteF hc1 h
    refine NWp.condF (t := decide (a0 < 128)) rfl hc1 ?_
    refine NWp.skip ?_
    obtain ⟨r2, hr2, h⟩ := bindE h
    obtain ⟨l3, hl3, h⟩ := bindE h
    refine NWp.opsJ ⟨tab [(2, .loc 0 0 l3.length)], stab [(0, .lst true none (List.map (D.int .u8) l3))], 1⟩ ?_ ?_
    · refine step (v := .d (.int .i64 a0)) rfl ?_
      refine step (v := .d (.int .i64 (a0.tmod 128))) rfl ?_
      refine step (v := .d (.int .i64 (IntKind.i64.wrap (128 + (a0.tmod 128))))) rfl ?_
      refine step (v := .d (.int .u8 (IntKind.u8.wrap (IntKind.i64.wrap (128 + (a0.tmod 128)))))) rfl ?_
      refine step (v := .loc 0 0 (([IntKind.u8.wrap (IntKind.i64.wrap (128 + (a0.tmod 128)))] : List Int).length)) (σ' := (upd (stab []) 0 (some (.lst true none (List.map (D.int .u8) ([IntKind.u8.wrap (IntKind.i64.wrap (128 + (a0.tmod 128)))] : List Int)))))) (n' := 1) rfl ?_
      refine step (v := .d (.int .i64 a0)) rfl ?_
      refine step (v := .d (.int .i64 (IntKind.i64.wrap (a0.tdiv 128)))) rfl ?_
      refine stepW (v := .loc 1 0 r2.length) (σ' := (upd (upd (stab []) 0 (some (.lst true none (List.map (D.int .u8) ([IntKind.u8.wrap (IntKind.i64.wrap (128 + (a0.tmod 128)))] : List Int))))) 1 (some (.lst true none (List.map (D.int .u8) r2))))) (n' := 2) (SCall.lift [] (hself _ _ hr2) (show 0 ≤ 1 by decide) (by decide) (show ∀ i ∈ [], i < 1 by decide) (dom_c (show 0 < 1 by decide) dom_n) (VNs.c (.d _) VNs.nil0) SN.nil0) (show 1 ≤ 2 by decide) ?_
      refine step (v := .loc 2 0 l3.length) (σ' := (upd (upd (upd (upd (stab []) 0 (some (.lst true none (List.map (D.int .u8) ([IntKind.u8.wrap (IntKind.i64.wrap (128 + (a0.tmod 128)))] : List Int))))) 1 (some (.lst true none (List.map (D.int .u8) r2)))) 0 none) 2 (some (.lst true none (List.map (D.int .u8) l3))))) (n' := 3) (st_app (xs := ([IntKind.u8.wrap (IntKind.i64.wrap (128 + (a0.tmod 128)))] : List Int)) (ys := r2) (e := (D.int .u8)) hl3 rfl rfl rfl (src_l (xs := r2) (e := (D.int .u8)) rfl rfl rfl)) ?_
      refine step (v := .loc 2 0 l3.length) rfl ?_
      exact RunOps.nil' (Norm.mk [2] (by decide) (by decide) (by decide) ⟨.loc 0 _ _ (show 0 < 1 by decide), trivial⟩ ⟨⟨show 0 < 1 by decide, _, rfl, .lst _ _ _⟩, trivial⟩)
    have hh := Option.some.inj h
    subst hh
    refine NWp.ret ?_
    exact ⟨.inr rfl, _, rfl, rfl, AllS.sub ⟨rfl, trivial⟩, rfl⟩

theorem c_ref32_Number_f : ∀ (k : Nat) (a0 : Int) (r : (List Int)), ref32_Number_f k a0 = some r → SCall Try.prog 62 [.d (.int .i64 a0)] (stab []) 0 (.loc 0 0 r.length) (stab [(0, .lst true none (List.map (D.int .u8) r))]) 1
  | 0, _, _, h => by cases h
  | k + 1, _, _, h => c_ref32_Number_s (c_ref32_Number_f k) h

theorem c_ref32_Number {a0 : Int} {r : (List Int)} (h : ref32_Number a0 = some r) : SCall Try.prog 62 [.d (.int .i64 a0)] (stab []) 0 (.loc 0 0 r.length) (stab [(0, .lst true none (List.map (D.int .u8) r))]) 1 := c_ref32_Number_f FUEL _ _ h

theorem c_ref32_deed {a0 : api_Deed} {r : (List Int)} (h : ref32_deed a0 = some r) : PCall Try.prog 63 [eapi_Deed a0] (eL none (D.int .u8) r) := by
  refine PCall.introN ok63 (show 1 ≤ 50 by decide) ?_
  refine NWp.norm (s0 := ⟨tab [(0, .d (eapi_Deed a0))], stab [], 0⟩) (Norm.mk [] (by decide) (by decide) (by decide) ⟨.d _, trivial⟩ trivial) ?_
  refine NWp.opsJ ⟨tab [(1, .d (.cptr (some 12) (eapi_Deed a0) 0))], stab [], 0⟩ ?_ ?_
  · refine step (v := .d (.cptr (some 12) (eapi_Deed a0) 0)) rfl ?_
    refine step (v := .d (eL none (D.int .u8) ([] : List Int))) rfl ?_
    exact RunOps.nil' (Norm.mk [] (by decide) (by decide) (by decide) ⟨.d _, trivial⟩ trivial)
  obtain ⟨r1, hr1, h⟩ := bindE h
  obtain ⟨r2, hr2, h⟩ := bindE h
  obtain ⟨l3, hl3, h⟩ := bindE h
  refine NWp.opsJ ⟨tab [(1, .d (.cptr (some 12) (eapi_Deed a0) 0)), (3, .loc 0 0 l3.length)], stab [(0, .lst true none (List.map (D.int .u8) l3))], 1⟩ ?_ ?_
  · refine step (v := .d (.cptr (some 12) (eapi_Deed a0) 0)) rfl ?_
    refine step (v := .d (.int .i64 a0.What)) rfl ?_
    refine stepW (v := .loc 0 0 r1.length) (σ' := (upd (stab []) 0 (some (.lst true none (List.map (D.int .u8) r1))))) (n' := 1) (SCall.lift [] (c_ref32_Number hr1) (show 0 ≤ 1 by decide) (by decide) (show ∀ i ∈ [], i < 0 by decide) (dom_c (show 0 < 1 by decide) dom_n) (VNs.c (.d _) VNs.nil0) SN.nil0) (show 0 ≤ 1 by decide) ?_
    refine step (v := .d (.cptr (some 12) (eapi_Deed a0) 1)) rfl ?_
    refine step (v := .d (.int .i64 a0.N)) rfl ?_
    refine stepW (v := .loc 1 0 r2.length) (σ' := (upd (upd (stab []) 0 (some (.lst true none (List.map (D.int .u8) r1)))) 1 (some (.lst true none (List.map (D.int .u8) r2))))) (n' := 2) (SCall.lift [] (c_ref32_Number hr2) (show 0 ≤ 1 by decide) (by decide) (show ∀ i ∈ [], i < 1 by decide) (dom_c (show 0 < 1 by decide) dom_n) (VNs.c (.d _) VNs.nil0) SN.nil0) (show 1 ≤ 2 by decide) ?_
    refine step (v := .loc 2 0 l3.length) (σ' := (upd (upd (upd (upd (stab []) 0 (some (.lst true none (List.map (D.int .u8) r1)))) 1 (some (.lst true none (List.map (D.int .u8) r2)))) 0 none) 2 (some (.lst true none (List.map (D.int .u8) l3))))) (n' := 3) (st_app (xs := r1) (ys := r2) (e := (D.int .u8)) hl3 rfl rfl rfl (src_l (xs := r2) (e := (D.int .u8)) rfl rfl rfl)) ?_
    refine step (v := .loc 2 0 l3.length) rfl ?_
    exact RunOps.nil' (Norm.mk [2] (by decide) (by decide) (by decide) ⟨.d _, .loc 0 _ _ (show 0 < 1 by decide), trivial⟩ ⟨⟨show 0 < 1 by decide, _, rfl, .lst _ _ _⟩, trivial⟩)
  obtain ⟨l29, hv, h⟩ := bindE h
  refine NWp.seqN ⟨tab [(3, .loc 0 0 l29.length)], stab [(0, .lst true none (List.map (D.int .u8) l29))], 1⟩ ?_ ?_
  · replace h := hv
    refine NWp.opsJ ⟨tab [(1, .d (.cptr (some 12) (eapi_Deed a0) 0)), (3, .loc 0 0 l3.length), (14, .d (.int .i64 a0.What))], stab [(0, .lst true none (List.map (D.int .u8) l3))], 1⟩ ?_ ?_
    · refine step (v := .d (.cptr (some 12) (eapi_Deed a0) 0)) rfl ?_
      refine step (v := .d (.int .i64 a0.What)) rfl ?_
      exact RunOps.nil' (Norm.mk [0] (by decide) (by decide) (by decide) ⟨.d _, .loc 0 _ _ (show 0 < 1 by decide), .d _, trivial⟩ ⟨⟨show 0 < 1 by decide, _, rfl, .lst _ _ _⟩, trivial⟩)
    refine NWp.block ?_
    refine NWp.opsJ ⟨tab [(1, .d (.cptr (some 12) (eapi_Deed a0) 0)), (3, .loc 0 0 l3.length), (14, .d (.int .i64 a0.What)), (15, .d (.bool (a0.What == 0)))], stab [(0, .lst true none (List.map (D.int .u8) l3))], 1⟩ ?_ ?_
    · refine step (v := .d (.bool (a0.What == 0))) rfl ?_
      refine step (v := .d (.bool (a0.What == 0))) rfl ?_
      exact RunOps.nil' (Norm.mk [0] (by decide) (by decide) (by decide) ⟨.d _, .loc 0 _ _ (show 0 < 1 by decide), .d _, .d _, trivial⟩ ⟨⟨show 0 < 1 by decide, _, rfl, .lst _ _ _⟩, trivial⟩)
    by_cases hc4 : (a0.What == 0) = true
    · replace h := iteT hc4 h
      refine NWp.condT (t := (a0.What == 0)) rfl hc4 ?_
      refine NWp.opsJ ⟨tab [(1, .d (.cptr (some 12) (eapi_Deed a0) 0)), (3, .loc 0 0 l3.length), (4, .d (.int .i64 2))], stab [(0, .lst true none (List.map (D.int .u8) l3))], 1⟩ ?_ ?_
      · refine step (v := .d (.int .i64 2)) rfl ?_
        exact RunOps.nil' (Norm.mk [0] (by decide) (by decide) (by decide) ⟨.d _, .loc 0 _ _ (show 0 < 1 by decide), .d _, trivial⟩ ⟨⟨show 0 < 1 by decide, _, rfl, .lst _ _ _⟩, trivial⟩)
      obtain ⟨z15, hl, h⟩ := bindE h
      refine NWp.block ?_
      refine loop_forO (cntU 8) (fun (i6 : Int) (qq : (List Int)) => ⟨tab [(1, .d (.cptr (some 12) (eapi_Deed a0) 0)), (3, .loc 0 0 qq.length), (4, .d (.int .i64 i6))], stab [(0, .lst true none (List.map (D.int .u8) qq))], 1⟩) 1 (fun (qq : (List Int)) => ⟨tab [(3, .loc 0 0 qq.length)], stab [(0, .lst true none (List.map (D.int .u8) qq))], 1⟩) Low low_step hl (by unfold Low; omega) ?_ ?_ ?_
      · rintro i6 l5 xr11 hinv9 hgo8 h
        show NWp _ _ _ _ _ ⟨tab [(1, .d (.cptr (some 12) (eapi_Deed a0) 0)), (3, .loc 0 0 l5.length), (4, .d (.int .i64 i6))], stab [(0, .lst true none (List.map (D.int .u8) l5))], 1⟩
        have hc10 : decide (i6 < 8) = true := decide_eq_true hgo8
        refine NWp.seq ?_
        refine NWp.opsJ ⟨tab [(1, .d (.cptr (some 12) (eapi_Deed a0) 0)), (3, .loc 0 0 l5.length), (4, .d (.int .i64 i6)), (18, .d (.bool (decide (i6 < 8))))], stab [(0, .lst true none (List.map (D.int .u8) l5))], 1⟩ ?_ ?_
        · refine step (v := .d (.int .i64 i6)) rfl ?_
          refine step (v := .d (.bool (decide (i6 < 8)))) rfl ?_
          exact RunOps.nil' (Norm.mk [0] (by decide) (by decide) (by decide) ⟨.d _, .loc 0 _ _ (show 0 < 1 by decide), .d _, .d _, trivial⟩ ⟨⟨show 0 < 1 by decide, _, rfl, .lst _ _ _⟩, trivial⟩)
        refine NWp.condT (t := decide (i6 < 8)) rfl hc10 ?_
        refine NWp.skip ?_
        refine NWp.seq ?_
        refine NWp.block ?_
        obtain ⟨x12, hx12, h⟩ := bindE h
        obtain ⟨r13, hr13, h⟩ := bindE h
        obtain ⟨l14, hl14, h⟩ := bindE h
        refine NWp.opsE ⟨tab [(1, .d (.cptr (some 12) (eapi_Deed a0) 0)), (3, .loc 0 0 l14.length), (4, .d (.int .i64 i6))], stab [(0, .lst true none (List.map (D.int .u8) l14))], 1⟩ ?_ ?_
        · refine step (v := .loc 0 0 l5.length) rfl ?_
          refine step (v := .d (.int .i64 i6)) rfl ?_
          refine step (v := .d (.cptr (some 12) (eapi_Deed a0) 3)) rfl ?_
          refine step (v := .d (.cptr (some 12) (eapi_Deed a0) (3 + i6.toNat * 1))) (st_iaddrAC (xs := a0.P.l) hx12 rfl rfl rfl) ?_
          refine step (v := .d (.int .u16 x12)) (st_ldIC rfl (ld_arr (e := (D.int .u16)) (xs := a0.P.l) (pre := [.int .i64 a0.What, .int .i64 a0.N, .bool a0.Back]) (post := [.str a0.Raw]) hx12 rfl (by decide))) ?_
          refine step (v := .d (.int .i64 (IntKind.i64.wrap x12))) rfl ?_
          refine stepW (v := .loc 1 0 r13.length) (σ' := (upd (stab [(0, .lst true none (List.map (D.int .u8) l5))]) 1 (some (.lst true none (List.map (D.int .u8) r13))))) (n' := 2) (SCall.lift [] (c_ref32_Number hr13) (show 0 ≤ 1 by decide) (by decide) (show ∀ i ∈ [], i < 1 by decide) (dom_c (show 0 < 1 by decide) dom_n) (VNs.c (.d _) VNs.nil0) SN.nil0) (show 1 ≤ 2 by decide) ?_
          refine step (v := .loc 2 0 l14.length) (σ' := (upd (upd (upd (stab [(0, .lst true none (List.map (D.int .u8) l5))]) 1 (some (.lst true none (List.map (D.int .u8) r13)))) 0 none) 2 (some (.lst true none (List.map (D.int .u8) l14))))) (n' := 3) (st_app (xs := l5) (ys := r13) (e := (D.int .u8)) hl14 rfl rfl rfl (src_l (xs := r13) (e := (D.int .u8)) rfl rfl rfl)) ?_
          refine step (v := .loc 2 0 l14.length) rfl ?_
          exact RunOps.nil' (Norm.mk [2] (by decide) (by decide) (by decide) ⟨.d _, .loc 0 _ _ (show 0 < 1 by decide), .d _, trivial⟩ ⟨⟨show 0 < 1 by decide, _, rfl, .lst _ _ _⟩, trivial⟩)
        have hh := Option.some.inj h
        subst hh
        refine NWp.opsE ⟨tab [(1, .d (.cptr (some 12) (eapi_Deed a0) 0)), (3, .loc 0 0 l14.length), (4, .d (.int .i64 (i6 + 1)))], stab [(0, .lst true none (List.map (D.int .u8) l14))], 1⟩ ?_ ?_
        · refine step (v := .d (.int .i64 i6)) rfl ?_
          refine step (v := .d (.int .i64 (i6 + 1))) (st_inc (inc_ok hinv9 hgo8 (by decide)) rfl rfl) ?_
          refine step (v := .d (.int .i64 (i6 + 1))) rfl ?_
          exact RunOps.nil' (Norm.mk [0] (by decide) (by decide) (by decide) ⟨.d _, .loc 0 _ _ (show 0 < 1 by decide), .d _, trivial⟩ ⟨⟨show 0 < 1 by decide, _, rfl, .lst _ _ _⟩, trivial⟩)
        exact And.intro rfl rfl
      · rintro i6 l5 hinv9 hgo8
        show NWp _ _ _ _ _ ⟨tab [(1, .d (.cptr (some 12) (eapi_Deed a0) 0)), (3, .loc 0 0 l5.length), (4, .d (.int .i64 i6))], stab [(0, .lst true none (List.map (D.int .u8) l5))], 1⟩
        have hc10 : ¬ (decide (i6 < 8) = true) := fun hq => hgo8 (of_decide_eq_true hq)
        refine NWp.seq ?_
        refine NWp.opsJ ⟨tab [(1, .d (.cptr (some 12) (eapi_Deed a0) 0)), (3, .loc 0 0 l5.length), (4, .d (.int .i64 i6)), (18, .d (.bool (decide (i6 < 8))))], stab [(0, .lst true none (List.map (D.int .u8) l5))], 1⟩ ?_ ?_
        · refine step (v := .d (.int .i64 i6)) rfl ?_
          refine step (v := .d (.bool (decide (i6 < 8)))) rfl ?_
          exact RunOps.nil' (Norm.mk [0] (by decide) (by decide) (by decide) ⟨.d _, .loc 0 _ _ (show 0 < 1 by decide), .d _, .d _, trivial⟩ ⟨⟨show 0 < 1 by decide, _, rfl, .lst _ _ _⟩, trivial⟩)
        refine NWp.condF (t := decide (i6 < 8)) rfl hc10 ?_
        refine NWp.norm (s0 := ⟨tab [(3, .loc 0 0 l5.length)], stab [(0, .lst true none (List.map (D.int .u8) l5))], 1⟩) (Norm.mk [0] (by decide) (by decide) (by decide) ⟨.loc 0 _ _ (show 0 < 1 by decide), trivial⟩ ⟨⟨show 0 < 1 by decide, _, rfl, .lst _ _ _⟩, trivial⟩) ?_
        refine NWp.exit ?_
        exact And.intro rfl rfl
      have hh := Option.some.inj h
      subst hh
      exact And.intro rfl rfl
    · replace h := iteF hc4 h
      refine NWp.condF (t := (a0.What == 0)) rfl hc4 ?_
      refine NWp.opsJ ⟨tab [(1, .d (.cptr (some 12) (eapi_Deed a0) 0)), (3, .loc 0 0 l3.length), (14, .d (.int .i64 a0.What)), (29, .d (.bool (a0.What == 1)))], stab [(0, .lst true none (List.map (D.int .u8) l3))], 1⟩ ?_ ?_
      · refine step (v := .d (.bool (a0.What == 1))) rfl ?_
        refine step (v := .d (.bool (a0.What == 1))) rfl ?_
        exact RunOps.nil' (Norm.mk [0] (by decide) (by decide) (by decide) ⟨.d _, .loc 0 _ _ (show 0 < 1 by decide), .d _, .d _, trivial⟩ ⟨⟨show 0 < 1 by decide, _, rfl, .lst _ _ _⟩, trivial⟩)
      by_cases hc17 : (a0.What == 1) = true
      · replace h := iteT hc17 h
        refine NWp.condT (t := (a0.What == 1)) rfl hc17 ?_
        obtain ⟨r18, hr18, h⟩ := bindE h
        obtain ⟨l19, hl19, h⟩ := bindE h
        obtain ⟨l20, hl20, h⟩ := bindE h
        have hh := Option.some.inj h
        subst hh
        refine NWp.opsE ⟨tab [(3, .loc 0 0 l20.length)], stab [(0, .lst true none (List.map (D.int .u8) l20))], 1⟩ ?_ ?_
        · refine step (v := .loc 0 0 l3.length) rfl ?_
          refine step (v := .d (.cptr (some 12) (eapi_Deed a0) 11)) rfl ?_
          refine step (v := .d (.str a0.Raw)) rfl ?_
          refine step (v := .d (.int .i64 (a0.Raw.size : Int))) rfl ?_
          refine stepW (v := .loc 1 0 r18.length) (σ' := (upd (stab [(0, .lst true none (List.map (D.int .u8) l3))]) 1 (some (.lst true none (List.map (D.int .u8) r18))))) (n' := 2) (SCall.lift [] (c_ref32_Number hr18) (show 0 ≤ 1 by decide) (by decide) (show ∀ i ∈ [], i < 1 by decide) (dom_c (show 0 < 1 by decide) dom_n) (VNs.c (.d _) VNs.nil0) SN.nil0) (show 1 ≤ 2 by decide) ?_
          refine step (v := .loc 2 0 l19.length) (σ' := (upd (upd (upd (stab [(0, .lst true none (List.map (D.int .u8) l3))]) 1 (some (.lst true none (List.map (D.int .u8) r18)))) 0 none) 2 (some (.lst true none (List.map (D.int .u8) l19))))) (n' := 3) (st_app (xs := l3) (ys := r18) (e := (D.int .u8)) hl19 rfl rfl rfl (src_l (xs := r18) (e := (D.int .u8)) rfl rfl rfl)) ?_
          refine step (v := .d (.cptr (some 12) (eapi_Deed a0) 11)) rfl ?_
          refine step (v := .d (.str a0.Raw)) rfl ?_
          refine step (v := .loc 3 0 l20.length) (σ' := (upd (upd (upd (upd (upd (stab [(0, .lst true none (List.map (D.int .u8) l3))]) 1 (some (.lst true none (List.map (D.int .u8) r18)))) 0 none) 2 (some (.lst true none (List.map (D.int .u8) l19)))) 2 none) 3 (some (.lst true none (List.map (D.int .u8) l20))))) (n' := 4) (st_app (xs := l19) (ys := bytesOf a0.Raw) (e := (D.int .u8)) hl20 rfl rfl rfl (src_s rfl)) ?_
          refine step (v := .loc 3 0 l20.length) rfl ?_
          exact RunOps.nil' (Norm.mk [3] (by decide) (by decide) (by decide) ⟨.loc 0 _ _ (show 0 < 1 by decide), trivial⟩ ⟨⟨show 0 < 1 by decide, _, rfl, .lst _ _ _⟩, trivial⟩)
        exact And.intro rfl rfl
      · replace h := iteF hc17 h
        refine NWp.condF (t := (a0.What == 1)) rfl hc17 ?_
        obtain ⟨y22, hv, h⟩ := bindE h
        refine NWp.seqN ⟨tab [(1, .d (.cptr (some 12) (eapi_Deed a0) 0)), (3, .loc 0 0 l3.length), (40, .d (.bool y22))], stab [(0, .lst true none (List.map (D.int .u8) l3))], 1⟩ ?_ ?_
        · replace h := hv
          refine NWp.opsJ ⟨tab [(1, .d (.cptr (some 12) (eapi_Deed a0) 0)), (3, .loc 0 0 l3.length), (14, .d (.int .i64 a0.What)), (40, .d (.bool (a0.What == 3)))], stab [(0, .lst true none (List.map (D.int .u8) l3))], 1⟩ ?_ ?_
          · refine step (v := .d (.bool (a0.What == 3))) rfl ?_
            refine step (v := .d (.bool (a0.What == 3))) rfl ?_
            exact RunOps.nil' (Norm.mk [0] (by decide) (by decide) (by decide) ⟨.d _, .loc 0 _ _ (show 0 < 1 by decide), .d _, .d _, trivial⟩ ⟨⟨show 0 < 1 by decide, _, rfl, .lst _ _ _⟩, trivial⟩)
          by_cases hc21 : (a0.What == 3) = true
          · replace h := iteT hc21 h
            refine NWp.condT (t := (a0.What == 3)) rfl hc21 ?_
            have hh := Option.some.inj h
            subst hh
            refine NWp.norm (s0 := ⟨tab [(1, .d (.cptr (some 12) (eapi_Deed a0) 0)), (3, .loc 0 0 l3.length), (40, .d (.bool (a0.What == 3)))], stab [(0, .lst true none (List.map (D.int .u8) l3))], 1⟩) (Norm.mk [0] (by decide) (by decide) (by decide) ⟨.d _, .loc 0 _ _ (show 0 < 1 by decide), .d _, trivial⟩ ⟨⟨show 0 < 1 by decide, _, rfl, .lst _ _ _⟩, trivial⟩) ?_
            refine NWp.skip ?_
            exact And.intro rfl rfl
          · replace h := iteF hc21 h
            refine NWp.condF (t := (a0.What == 3)) rfl hc21 ?_
            have hh := Option.some.inj h
            subst hh
            refine NWp.opsE ⟨tab [(1, .d (.cptr (some 12) (eapi_Deed a0) 0)), (3, .loc 0 0 l3.length), (40, .d (.bool (a0.What == 4)))], stab [(0, .lst true none (List.map (D.int .u8) l3))], 1⟩ ?_ ?_
            · refine step (v := .d (.bool (a0.What == 4))) rfl ?_
              refine step (v := .d (.bool (a0.What == 4))) rfl ?_
              exact RunOps.nil' (Norm.mk [0] (by decide) (by decide) (by decide) ⟨.d _, .loc 0 _ _ (show 0 < 1 by decide), .d _, trivial⟩ ⟨⟨show 0 < 1 by decide, _, rfl, .lst _ _ _⟩, trivial⟩)
            exact And.intro rfl rfl
        by_cases hc24 : y22 = true
        · replace h := iteT hc24 h
          refine NWp.condT (t := y22) rfl hc24 ?_
          refine NWp.opsJ ⟨tab [(1, .d (.cptr (some 12) (eapi_Deed a0) 0)), (3, .loc 0 0 l3.length), (5, .d (.int .u8 0))], stab [(0, .lst true none (List.map (D.int .u8) l3))], 1⟩ ?_ ?_
          · refine step (v := .d (.int .u8 0)) rfl ?_
            exact RunOps.nil' (Norm.mk [0] (by decide) (by decide) (by decide) ⟨.d _, .loc 0 _ _ (show 0 < 1 by decide), .d _, trivial⟩ ⟨⟨show 0 < 1 by decide, _, rfl, .lst _ _ _⟩, trivial⟩)
          obtain ⟨y26, hv, h⟩ := bindE h
          refine NWp.seqN ⟨tab [(3, .loc 0 0 l3.length), (5, .d (.int .u8 y26))], stab [(0, .lst true none (List.map (D.int .u8) l3))], 1⟩ ?_ ?_
          · replace h := hv
            refine NWp.opsJ ⟨tab [(3, .loc 0 0 l3.length), (5, .d (.int .u8 0)), (44, .d (.bool a0.Back))], stab [(0, .lst true none (List.map (D.int .u8) l3))], 1⟩ ?_ ?_
            · refine step (v := .d (.cptr (some 12) (eapi_Deed a0) 2)) rfl ?_
              refine step (v := .d (.bool a0.Back)) rfl ?_
              exact RunOps.nil' (Norm.mk [0] (by decide) (by decide) (by decide) ⟨.loc 0 _ _ (show 0 < 1 by decide), .d _, .d _, trivial⟩ ⟨⟨show 0 < 1 by decide, _, rfl, .lst _ _ _⟩, trivial⟩)
            by_cases hc25 : a0.Back = true
            · replace h := iteT hc25 h
              refine NWp.condT (t := a0.Back) rfl hc25 ?_
              have hh := Option.some.inj h
              subst hh
              refine NWp.opsE ⟨tab [(3, .loc 0 0 l3.length), (5, .d (.int .u8 1))], stab [(0, .lst true none (List.map (D.int .u8) l3))], 1⟩ ?_ ?_
              · refine step (v := .d (.int .u8 1)) rfl ?_
                exact RunOps.nil' (Norm.mk [0] (by decide) (by decide) (by decide) ⟨.loc 0 _ _ (show 0 < 1 by decide), .d _, trivial⟩ ⟨⟨show 0 < 1 by decide, _, rfl, .lst _ _ _⟩, trivial⟩)
              exact And.intro rfl rfl
            · replace h := iteF hc25 h
              refine NWp.condF (t := a0.Back) rfl hc25 ?_
              have hh := Option.some.inj h
              subst hh
              refine NWp.norm (s0 := ⟨tab [(3, .loc 0 0 l3.length), (5, .d (.int .u8 0))], stab [(0, .lst true none (List.map (D.int .u8) l3))], 1⟩) (Norm.mk [0] (by decide) (by decide) (by decide) ⟨.loc 0 _ _ (show 0 < 1 by decide), .d _, trivial⟩ ⟨⟨show 0 < 1 by decide, _, rfl, .lst _ _ _⟩, trivial⟩) ?_
              refine NWp.skip ?_
              exact And.intro rfl rfl
          obtain ⟨l28, hl28, h⟩ := bindE h
          have hh := Option.some.inj h
          subst hh
          refine NWp.opsE ⟨tab [(3, .loc 0 0 l28.length)], stab [(0, .lst true none (List.map (D.int .u8) l28))], 1⟩ ?_ ?_
          · refine step (v := .loc 0 0 l3.length) rfl ?_
            refine step (v := .d (.int .u8 y26)) rfl ?_
            refine step (v := .d (eL none (D.int .u8) ([y26] : List Int))) rfl ?_
            refine step (v := .loc 1 0 l28.length) (σ' := (upd (upd (stab [(0, .lst true none (List.map (D.int .u8) l3))]) 0 none) 1 (some (.lst true none (List.map (D.int .u8) l28))))) (n' := 2) (st_app (xs := l3) (ys := ([y26] : List Int)) (e := (D.int .u8)) hl28 rfl rfl rfl (src_v (xs := ([y26] : List Int)) (e := (D.int .u8)) rfl)) ?_
            refine step (v := .loc 1 0 l28.length) rfl ?_
            exact RunOps.nil' (Norm.mk [1] (by decide) (by decide) (by decide) ⟨.loc 0 _ _ (show 0 < 1 by decide), trivial⟩ ⟨⟨show 0 < 1 by decide, _, rfl, .lst _ _ _⟩, trivial⟩)
          exact And.intro rfl rfl
        · replace h := iteF hc24 h
          refine NWp.condF (t := y22) rfl hc24 ?_
          have hh := Option.some.inj h
          subst hh
          refine NWp.norm (s0 := ⟨tab [(3, .loc 0 0 l3.length)], stab [(0, .lst true none (List.map (D.int .u8) l3))], 1⟩) (Norm.mk [0] (by decide) (by decide) (by decide) ⟨.loc 0 _ _ (show 0 < 1 by decide), trivial⟩ ⟨⟨show 0 < 1 by decide, _, rfl, .lst _ _ _⟩, trivial⟩) ?_
          refine NWp.skip ?_
          exact And.intro rfl rfl
  refine NWp.opsJ ⟨tab [(2, .loc 0 0 l29.length)], stab [(0, .lst true none (List.map (D.int .u8) l29))], 1⟩ ?_ ?_
  · refine step (v := .loc 0 0 l29.length) rfl ?_
    refine step (v := .loc 0 0 l29.length) rfl ?_
    exact RunOps.nil' (Norm.mk [0] (by decide) (by decide) (by decide) ⟨.loc 0 _ _ (show 0 < 1 by decide), trivial⟩ ⟨⟨show 0 < 1 by decide, _, rfl, .lst _ _ _⟩, trivial⟩)
  have hh := Option.some.inj h
  subst hh
  refine NWp.ret ?_
  show FQ _ _ _ _
  exact FQ.mk1 (.inr rfl) (res_t (v := .loc 0 0 l29.length) rfl rfl) (RV.loc (xs := l29) (e := (D.int .u8)) rfl rfl trivial)

theorem c_ref03_Check {a0 : (List Int)} {r : Int} (h : ref03_Check a0 = some r) : PCall Try.prog 18 [eL none (D.int .u8) a0] (.int .u16 r) := by
  refine PCall.introN ok18 (show 1 ≤ 24 by decide) ?_
  refine NWp.norm (s0 := ⟨tab [(0, .d (eL none (D.int .u8) a0))], stab [], 0⟩) (Norm.mk [] (by decide) (by decide) (by decide) ⟨.d _, trivial⟩ trivial) ?_
  refine NWp.opsJ ⟨tab [(0, .d (eL none (D.int .u8) a0))], stab [], 0⟩ ?_ ?_
  · refine step (v := .d (.int .u16 0)) rfl ?_
    exact RunOps.nil' (Norm.mk [] (by decide) (by decide) (by decide) ⟨.d _, trivial⟩ trivial)
  refine NWp.opsJ ⟨tab [(0, .d (eL none (D.int .u8) a0)), (3, .d (.int .i64 0))], stab [], 0⟩ ?_ ?_
  · refine step (v := .d (.int .i64 0)) rfl ?_
    exact RunOps.nil' (Norm.mk [] (by decide) (by decide) (by decide) ⟨.d _, .d _, trivial⟩ trivial)
  refine NWp.seq ?_
  refine NWp.opsJ ⟨tab [(0, .d (eL none (D.int .u8) a0)), (3, .d (.int .i64 0)), (4, .d (.int .i64 0))], stab [], 0⟩ ?_ ?_
  · refine step (v := .d (.int .i64 0)) rfl ?_
    exact RunOps.nil' (Norm.mk [] (by decide) (by decide) (by decide) ⟨.d _, .d _, .d _, trivial⟩ trivial)
  obtain ⟨z9, hl, h⟩ := bindE h
  refine NWp.block ?_
  refine loop_forO (cntU (a0.length : Int)) (fun (i2 : Int) (qq : Int) => ⟨tab [(0, .d (eL none (D.int .u8) a0)), (3, .d (.int .i64 qq)), (4, .d (.int .i64 i2))], stab [], 0⟩) 0 (fun (qq : Int) => ⟨tab [(3, .d (.int .i64 qq))], stab [], 0⟩) Low low_step hl (by unfold Low; omega) ?_ ?_ ?_
  · rintro i2 i1 xr7 hinv5 hgo4 h
    show NWp _ _ _ _ _ ⟨tab [(0, .d (eL none (D.int .u8) a0)), (3, .d (.int .i64 i1)), (4, .d (.int .i64 i2))], stab [], 0⟩
    have hc6 : decide (i2 < (a0.length : Int)) = true := decide_eq_true hgo4
    refine NWp.seq ?_
    refine NWp.opsJ ⟨tab [(0, .d (eL none (D.int .u8) a0)), (3, .d (.int .i64 i1)), (4, .d (.int .i64 i2)), (7, .d (.int .i64 (a0.length : Int))), (8, .d (.bool (decide (i2 < (a0.length : Int)))))], stab [], 0⟩ ?_ ?_
    · refine step (v := .d (.int .i64 i2)) rfl ?_
      refine step (v := .d (eL none (D.int .u8) a0)) rfl ?_
      refine step (v := .d (.int .i64 (a0.length : Int))) (st_len (xs := a0) (e := (D.int .u8)) rfl) ?_
      refine step (v := .d (.bool (decide (i2 < (a0.length : Int))))) rfl ?_
      exact RunOps.nil' (Norm.mk [] (by decide) (by decide) (by decide) ⟨.d _, .d _, .d _, .d _, .d _, trivial⟩ trivial)
    refine NWp.rng 7 rfl fun hB3 => ?_
    refine NWp.condT (t := decide (i2 < (a0.length : Int))) rfl hc6 ?_
    refine NWp.skip ?_
    refine NWp.seq ?_
    refine NWp.block ?_
    obtain ⟨x8, hx8, h⟩ := bindE h
    refine NWp.opsE ⟨tab [(0, .d (eL none (D.int .u8) a0)), (3, .d (.int .i64 ((IntKind.i64.wrap (i1 + (IntKind.i64.wrap ((i2 + 1) * (IntKind.i64.wrap x8))))).tmod 65521))), (4, .d (.int .i64 i2))], stab [], 0⟩ ?_ ?_
    · refine step (v := .d (.int .i64 i1)) rfl ?_
      refine step (v := .d (.int .i64 i2)) rfl ?_
      refine step (v := .d (.int .i64 (i2 + 1))) (st_inc (inc_ok hinv5 hgo4 hB3) rfl rfl) ?_
      refine step (v := .d (eL none (D.int .u8) a0)) rfl ?_
      refine step (v := .d (.int .i64 i2)) rfl ?_
      refine step (v := .d (.cptr none (.int .u8 x8) 0)) (st_iaddr (xs := a0) (e := (D.int .u8)) hx8 rfl rfl) ?_
      refine step (v := .d (.int .u8 x8)) rfl ?_
      refine step (v := .d (.int .i64 (IntKind.i64.wrap x8))) rfl ?_
      refine step (v := .d (.int .i64 (IntKind.i64.wrap ((i2 + 1) * (IntKind.i64.wrap x8))))) rfl ?_
      refine step (v := .d (.int .i64 (IntKind.i64.wrap (i1 + (IntKind.i64.wrap ((i2 + 1) * (IntKind.i64.wrap x8))))))) rfl ?_
      refine step (v := .d (.int .i64 ((IntKind.i64.wrap (i1 + (IntKind.i64.wrap ((i2 + 1) * (IntKind.i64.wrap x8))))).tmod 65521))) rfl ?_
      refine step (v := .d (.int .i64 ((IntKind.i64.wrap (i1 + (IntKind.i64.wrap ((i2 + 1) * (IntKind.i64.wrap x8))))).tmod 65521))) rfl ?_
      exact RunOps.nil' (Norm.mk [] (by decide) (by decide) (by decide) ⟨.d _, .d _, .d _, trivial⟩ trivial)
    have hh := Option.some.inj h
    subst hh
    refine NWp.opsE ⟨tab [(0, .d (eL none (D.int .u8) a0)), (3, .d (.int .i64 ((IntKind.i64.wrap (i1 + (IntKind.i64.wrap ((i2 + 1) * (IntKind.i64.wrap x8))))).tmod 65521))), (4, .d (.int .i64 (i2 + 1)))], stab [], 0⟩ ?_ ?_
    · refine step (v := .d (.int .i64 i2)) rfl ?_
      refine step (v := .d (.int .i64 (i2 + 1))) (st_inc (inc_ok hinv5 hgo4 hB3) rfl rfl) ?_
      refine step (v := .d (.int .i64 (i2 + 1))) rfl ?_
      exact RunOps.nil' (Norm.mk [] (by decide) (by decide) (by decide) ⟨.d _, .d _, .d _, trivial⟩ trivial)
    exact And.intro rfl rfl
  · rintro i2 i1 hinv5 hgo4
    show NWp _ _ _ _ _ ⟨tab [(0, .d (eL none (D.int .u8) a0)), (3, .d (.int .i64 i1)), (4, .d (.int .i64 i2))], stab [], 0⟩
    have hc6 : ¬ (decide (i2 < (a0.length : Int)) = true) := fun hq => hgo4 (of_decide_eq_true hq)
    refine NWp.seq ?_
    refine NWp.opsJ ⟨tab [(0, .d (eL none (D.int .u8) a0)), (3, .d (.int .i64 i1)), (4, .d (.int .i64 i2)), (8, .d (.bool (decide (i2 < (a0.length : Int)))))], stab [], 0⟩ ?_ ?_
    · refine step (v := .d (.int .i64 i2)) rfl ?_
      refine step (v := .d (eL none (D.int .u8) a0)) rfl ?_
      refine step (v := .d (.int .i64 (a0.length : Int))) (st_len (xs := a0) (e := (D.int .u8)) rfl) ?_
      refine step (v := .d (.bool (decide (i2 < (a0.length : Int))))) rfl ?_
      exact RunOps.nil' (Norm.mk [] (by decide) (by decide) (by decide) ⟨.d _, .d _, .d _, .d _, trivial⟩ trivial)
    refine NWp.condF (t := decide (i2 < (a0.length : Int))) rfl hc6 ?_
    refine NWp.norm (s0 := ⟨tab [(3, .d (.int .i64 i1))], stab [], 0⟩) (Norm.mk [] (by decide) (by decide) (by decide) ⟨.d _, trivial⟩ trivial) ?_
    refine NWp.exit ?_
    exact And.intro rfl rfl
  refine NWp.opsJ ⟨tab [(2, .d (.int .u16 (IntKind.u16.wrap z9)))], stab [], 0⟩ ?_ ?_
  · refine step (v := .d (.int .i64 z9)) rfl ?_
    refine step (v := .d (.int .u16 (IntKind.u16.wrap z9))) rfl ?_
    refine step (v := .d (.int .u16 (IntKind.u16.wrap z9))) rfl ?_
    exact RunOps.nil' (Norm.mk [] (by decide) (by decide) (by decide) ⟨.d _, trivial⟩ trivial)
  have hh := Option.some.inj h
  subst hh
  refine NWp.ret ?_
  show FQ _ _ _ _
  exact FQ.mk1 (.inr rfl) (res_t (v := .d (.int .u16 (IntKind.u16.wrap z9))) rfl rfl) (RV.d trivial)

theorem c_ref03_Two {a0 : Int} {r : (List Int)} (h : ref03_Two a0 = some r) : PCall Try.prog 17 [.int .u16 a0] (eL none (D.int .u8) r) := by
  refine PCall.introN ok17 (show 1 ≤ 10 by decide) ?_
  refine NWp.norm (s0 := ⟨tab [(0, .d (.int .u16 a0))], stab [], 0⟩) (Norm.mk [] (by decide) (by decide) (by decide) ⟨.d _, trivial⟩ trivial) ?_
  refine NWp.opsJ ⟨tab [(0, .d (.int .u16 a0))], stab [], 0⟩ ?_ ?_
  · refine step (v := .d (eL none (D.int .u8) ([] : List Int))) rfl ?_
    exact RunOps.nil' (Norm.mk [] (by decide) (by decide) (by decide) ⟨.d _, trivial⟩ trivial)
  refine NWp.opsJ ⟨tab [(2, .d (eL none (D.int .u8) ([IntKind.u8.wrap (IntKind.u16.wrap (a0.tdiv 256)), IntKind.u8.wrap (a0.tmod 256)] : List Int)))], stab [], 0⟩ ?_ ?_
  · refine step (v := .d (.int .u16 a0)) rfl ?_
    refine step (v := .d (.int .u16 (IntKind.u16.wrap (a0.tdiv 256)))) rfl ?_
    refine step (v := .d (.int .u8 (IntKind.u8.wrap (IntKind.u16.wrap (a0.tdiv 256))))) rfl ?_
    refine step (v := .d (.int .u16 a0)) rfl ?_
    refine step (v := .d (.int .u16 (a0.tmod 256))) rfl ?_
    refine step (v := .d (.int .u8 (IntKind.u8.wrap (a0.tmod 256)))) rfl ?_
    refine step (v := .d (eL none (D.int .u8) ([IntKind.u8.wrap (IntKind.u16.wrap (a0.tdiv 256)), IntKind.u8.wrap (a0.tmod 256)] : List Int))) rfl ?_
    refine step (v := .d (eL none (D.int .u8) ([IntKind.u8.wrap (IntKind.u16.wrap (a0.tdiv 256)), IntKind.u8.wrap (a0.tmod 256)] : List Int))) rfl ?_
    exact RunOps.nil' (Norm.mk [] (by decide) (by decide) (by decide) ⟨.d _, trivial⟩ trivial)
  have hh := Option.some.inj h
  subst hh
  refine NWp.ret ?_
  show FQ _ _ _ _
  exact FQ.mk1 (.inr rfl) (res_t (v := .d (eL none (D.int .u8) ([IntKind.u8.wrap (IntKind.u16.wrap (a0.tdiv 256)), IntKind.u8.wrap (a0.tmod 256)] : List Int))) rfl rfl) (RV.d trivial)


end Go.AM
