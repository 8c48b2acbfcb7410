import Derived.Test.YtjdaaclkihjjnaaFrE
/-  What they are in the program: walks. -/
set_option linter.unusedVariables false
set_option linter.unusedSimpArgs false
namespace Go.AM
open Go Go.RowKit Go.Proofs

attribute [local irreducible] RunOps RunOpsL

theorem c_packet_To {a0 : (A8 Int)} {a1 : api_Port} {r : (A8 Int)} (h : packet_To a0 a1 = some r) : PCall Try.prog 49 [eA8 (D.int .u16) a0, eapi_Port a1] (eA8 (D.int .u16) r) := by
  refine PCall.introN ok49 (show 2 ≤ 12 by decide) ?_
  refine NWp.norm (s0 := ⟨tab [(0, .d (eA8 (D.int .u16) a0)), (1, .d (eapi_Port a1))], stab [], 0⟩) (Norm.mk [] (by decide) (by decide) (by decide) ⟨.d _, .d _, trivial⟩ trivial) ?_
  refine NWp.opsJ ⟨tab [(2, .ptr 0 0 0), (3, .d (.cptr (some 2) (eapi_Port a1) 0)), (4, .ptr 1 0 0)], stab [(0, .var [.d (.int .u16 a0.a0), .d (.int .u16 a0.a1), .d (.int .u16 a0.a2), .d (.int .u16 a0.a3), .d (.int .u16 a0.a4), .d (.int .u16 a0.a5), .d (.int .u16 a0.a6), .d (.int .u16 a0.a7)]), (1, .var [.d (.int .u16 0), .d (.int .u16 0), .d (.int .u16 0), .d (.int .u16 0), .d (.int .u16 0), .d (.int .u16 0), .d (.int .u16 0), .d (.int .u16 0)])], 2⟩ ?_ ?_
  · refine step (v := .ptr 0 0 0) (σ' := (upd (stab []) 0 (some (.var [.d (.int .u16 a0.a0), .d (.int .u16 a0.a1), .d (.int .u16 a0.a2), .d (.int .u16 a0.a3), .d (.int .u16 a0.a4), .d (.int .u16 a0.a5), .d (.int .u16 a0.a6), .d (.int .u16 a0.a7)])))) (n' := 1) rfl ?_
    refine step (v := .d (.cptr (some 2) (eapi_Port a1) 0)) rfl ?_
    refine step (v := .ptr 1 0 0) (σ' := (upd (upd (stab []) 0 (some (.var [.d (.int .u16 a0.a0), .d (.int .u16 a0.a1), .d (.int .u16 a0.a2), .d (.int .u16 a0.a3), .d (.int .u16 a0.a4), .d (.int .u16 a0.a5), .d (.int .u16 a0.a6), .d (.int .u16 a0.a7)]))) 1 (some (.var [.d (.int .u16 0), .d (.int .u16 0), .d (.int .u16 0), .d (.int .u16 0), .d (.int .u16 0), .d (.int .u16 0), .d (.int .u16 0), .d (.int .u16 0)])))) (n' := 2) rfl ?_
    exact RunOps.nil' (Norm.mk [0, 1] (by decide) (by decide) (by decide) ⟨.ptr 0 _ _ (show 0 < 2 by decide), .d _, .ptr 1 _ _ (show 1 < 2 by decide), trivial⟩ ⟨⟨show 0 < 2 by decide, _, rfl, .vars ⟨.d _, .d _, .d _, .d _, .d _, .d _, .d _, .d _, trivial⟩⟩, ⟨show 1 < 2 by decide, _, rfl, .vars ⟨.d _, .d _, .d _, .d _, .d _, .d _, .d _, .d _, trivial⟩⟩, trivial⟩)
  refine NWp.opsJ ⟨tab [(2, .ptr 0 0 0), (4, .ptr 1 0 0)], stab [(0, .var [.d (.int .u16 a1.Sw), .d (.int .u16 a1.Pt), .d (.int .u16 a0.a2), .d (.int .u16 a0.a3), .d (.int .u16 a0.a4), .d (.int .u16 a0.a5), .d (.int .u16 a0.a6), .d (.int .u16 a0.a7)]), (1, .var [.d (.int .u16 0), .d (.int .u16 0), .d (.int .u16 0), .d (.int .u16 0), .d (.int .u16 0), .d (.int .u16 0), .d (.int .u16 0), .d (.int .u16 0)])], 2⟩ ?_ ?_
  · refine step (v := .d (.cptr (some 2) (eapi_Port a1) 0)) rfl ?_
    refine step (v := .d (.int .u16 a1.Sw)) rfl ?_
    refine step (v := .d (.cptr (some 2) (eapi_Port a1) 1)) rfl ?_
    refine step (v := .d (.int .u16 a1.Pt)) rfl ?_
    refine step (v := .ptr 0 0 0) rfl ?_
    refine step (v := V.undef) (σ' := (upd (stab [(0, .var [.d (.int .u16 a0.a0), .d (.int .u16 a0.a1), .d (.int .u16 a0.a2), .d (.int .u16 a0.a3), .d (.int .u16 a0.a4), .d (.int .u16 a0.a5), .d (.int .u16 a0.a6), .d (.int .u16 a0.a7)]), (1, .var [.d (.int .u16 0), .d (.int .u16 0), .d (.int .u16 0), .d (.int .u16 0), .d (.int .u16 0), .d (.int .u16 0), .d (.int .u16 0), .d (.int .u16 0)])]) 0 (some (.var [.d (.int .u16 a1.Sw), .d (.int .u16 a0.a1), .d (.int .u16 a0.a2), .d (.int .u16 a0.a3), .d (.int .u16 a0.a4), .d (.int .u16 a0.a5), .d (.int .u16 a0.a6), .d (.int .u16 a0.a7)])))) (n' := 2) rfl ?_
    refine step (v := .ptr 0 0 1) rfl ?_
    refine step (v := V.undef) (σ' := (upd (upd (stab [(0, .var [.d (.int .u16 a0.a0), .d (.int .u16 a0.a1), .d (.int .u16 a0.a2), .d (.int .u16 a0.a3), .d (.int .u16 a0.a4), .d (.int .u16 a0.a5), .d (.int .u16 a0.a6), .d (.int .u16 a0.a7)]), (1, .var [.d (.int .u16 0), .d (.int .u16 0), .d (.int .u16 0), .d (.int .u16 0), .d (.int .u16 0), .d (.int .u16 0), .d (.int .u16 0), .d (.int .u16 0)])]) 0 (some (.var [.d (.int .u16 a1.Sw), .d (.int .u16 a0.a1), .d (.int .u16 a0.a2), .d (.int .u16 a0.a3), .d (.int .u16 a0.a4), .d (.int .u16 a0.a5), .d (.int .u16 a0.a6), .d (.int .u16 a0.a7)]))) 0 (some (.var [.d (.int .u16 a1.Sw), .d (.int .u16 a1.Pt), .d (.int .u16 a0.a2), .d (.int .u16 a0.a3), .d (.int .u16 a0.a4), .d (.int .u16 a0.a5), .d (.int .u16 a0.a6), .d (.int .u16 a0.a7)])))) (n' := 2) rfl ?_
    exact RunOps.nil' (Norm.mk [0, 1] (by decide) (by decide) (by decide) ⟨.ptr 0 _ _ (show 0 < 2 by decide), .ptr 1 _ _ (show 1 < 2 by decide), trivial⟩ ⟨⟨show 0 < 2 by decide, _, rfl, .vars ⟨.d _, .d _, .d _, .d _, .d _, .d _, .d _, .d _, trivial⟩⟩, ⟨show 1 < 2 by decide, _, rfl, .vars ⟨.d _, .d _, .d _, .d _, .d _, .d _, .d _, .d _, trivial⟩⟩, trivial⟩)
  refine NWp.opsJ ⟨tab [(4, .ptr 0 0 0)], stab [(0, .var [.d (.int .u16 a1.Sw), .d (.int .u16 a1.Pt), .d (.int .u16 a0.a2), .d (.int .u16 a0.a3), .d (.int .u16 a0.a4), .d (.int .u16 a0.a5), .d (.int .u16 a0.a6), .d (.int .u16 a0.a7)])], 1⟩ ?_ ?_
  · refine step (v := .d (eA8 (D.int .u16) (A8.mk a1.Sw a1.Pt a0.a2 a0.a3 a0.a4 a0.a5 a0.a6 a0.a7))) (st_ldV (ds := [.int .u16 a1.Sw, .int .u16 a1.Pt, .int .u16 a0.a2, .int .u16 a0.a3, .int .u16 a0.a4, .int .u16 a0.a5, .int .u16 a0.a6, .int .u16 a0.a7]) rfl rfl (show 8 ≤ 8 by decide) rfl) ?_
    refine step (v := V.undef) (σ' := (upd (stab [(0, .var [.d (.int .u16 a1.Sw), .d (.int .u16 a1.Pt), .d (.int .u16 a0.a2), .d (.int .u16 a0.a3), .d (.int .u16 a0.a4), .d (.int .u16 a0.a5), .d (.int .u16 a0.a6), .d (.int .u16 a0.a7)]), (1, .var [.d (.int .u16 0), .d (.int .u16 0), .d (.int .u16 0), .d (.int .u16 0), .d (.int .u16 0), .d (.int .u16 0), .d (.int .u16 0), .d (.int .u16 0)])]) 1 (some (.var [.d (.int .u16 a1.Sw), .d (.int .u16 a1.Pt), .d (.int .u16 a0.a2), .d (.int .u16 a0.a3), .d (.int .u16 a0.a4), .d (.int .u16 a0.a5), .d (.int .u16 a0.a6), .d (.int .u16 a0.a7)])))) (n' := 2) rfl ?_
    exact RunOps.nil' (Norm.mk [1] (by decide) (by decide) (by decide) ⟨.ptr 0 _ _ (show 0 < 1 by decide), trivial⟩ ⟨⟨show 0 < 1 by decide, _, rfl, .vars ⟨.d _, .d _, .d _, .d _, .d _, .d _, .d _, .d _, trivial⟩⟩, trivial⟩)
  have hh := Option.some.inj h
  subst hh
  refine NWp.ret ?_
  show FQ _ _ _ _
  exact FQ.mk1 (.inr rfl) (res_cell (ds := [.int .u16 a1.Sw, .int .u16 a1.Pt, .int .u16 a0.a2, .int .u16 a0.a3, .int .u16 a0.a4, .int .u16 a0.a5, .int .u16 a0.a6, .int .u16 a0.a7]) rfl rfl (show 8 ≤ 8 by decide) rfl rfl) (RV.d trivial)

theorem c_frame_Tagged {a0 : (A8 Int)} {a1 : Int} {a2 : Int} {r : api_Frame} (h : frame_Tagged a0 a1 a2 = some r) : PCall Try.prog 29 [eA8 (D.int .u16) a0, .int .u16 a1, .int .u64 a2] (eapi_Frame r) := by
  refine PCall.introN ok29 (show 3 ≤ 13 by decide) ?_
  refine NWp.norm (s0 := ⟨tab [(0, .d (eA8 (D.int .u16) a0)), (1, .d (.int .u16 a1)), (2, .d (.int .u64 a2))], stab [], 0⟩) (Norm.mk [] (by decide) (by decide) (by decide) ⟨.d _, .d _, .d _, trivial⟩ trivial) ?_
  refine NWp.opsJ ⟨tab [(1, .d (.int .u16 a1)), (2, .d (.int .u64 a2)), (3, .d (.cptr (some 8) (eA8 (D.int .u16) a0) 0)), (6, .ptr 0 0 0)], stab [(0, .var [.d (.int .u16 0), .d (.int .u16 0), .d (.int .u16 0), .d (.int .u16 0), .d (.int .u16 0), .d (.int .u16 0), .d (.int .u16 0), .d (.int .u16 0), .d (.bool false), .d (.int .u16 0), .d (.int .u64 0)])], 1⟩ ?_ ?_
  · refine step (v := .d (.cptr (some 8) (eA8 (D.int .u16) a0) 0)) rfl ?_
    refine step (v := .ptr 0 0 0) (σ' := (upd (stab []) 0 (some (.var [.d (.int .u16 0), .d (.int .u16 0), .d (.int .u16 0), .d (.int .u16 0), .d (.int .u16 0), .d (.int .u16 0), .d (.int .u16 0), .d (.int .u16 0), .d (.bool false), .d (.int .u16 0), .d (.int .u64 0)])))) (n' := 1) rfl ?_
    exact RunOps.nil' (Norm.mk [0] (by decide) (by decide) (by decide) ⟨.d _, .d _, .d _, .ptr 0 _ _ (show 0 < 1 by decide), trivial⟩ ⟨⟨show 0 < 1 by decide, _, rfl, .vars ⟨.d _, .d _, .d _, .d _, .d _, .d _, .d _, .d _, .d _, .d _, .d _, trivial⟩⟩, trivial⟩)
  obtain ⟨r1, hr1, h⟩ := bindE h
  refine NWp.opsJ ⟨tab [(6, .ptr 0 0 0)], stab [(0, .var [.d (.int .u16 r1.a0), .d (.int .u16 r1.a1), .d (.int .u16 r1.a2), .d (.int .u16 r1.a3), .d (.int .u16 r1.a4), .d (.int .u16 r1.a5), .d (.int .u16 r1.a6), .d (.int .u16 r1.a7), .d (.bool true), .d (.int .u16 a1), .d (.int .u64 a2)])], 1⟩ ?_ ?_
  · refine step (v := .d (eA8 (D.int .u16) a0)) rfl ?_
    refine step (v := .d (eapi_Port (api_Port.mk 0 0))) (st_build (ds := [.int .u16 0, .int .u16 0]) rfl) ?_
    refine stepC (r := eA8 (D.int .u16) r1) (ArgsOk.dt (ArgsOk.dt ArgsOk.nil')) (c_packet_To hr1) ?_
    refine step (v := .d (.int .u16 a1)) rfl ?_
    refine step (v := .d (.int .u64 a2)) rfl ?_
    refine step (v := .d (eapi_Frame (api_Frame.mk r1 true a1 a2))) (st_build (ds := [.int .u16 r1.a0, .int .u16 r1.a1, .int .u16 r1.a2, .int .u16 r1.a3, .int .u16 r1.a4, .int .u16 r1.a5, .int .u16 r1.a6, .int .u16 r1.a7, .bool true, .int .u16 a1, .int .u64 a2]) rfl) ?_
    refine step (v := V.undef) (σ' := (upd (stab [(0, .var [.d (.int .u16 0), .d (.int .u16 0), .d (.int .u16 0), .d (.int .u16 0), .d (.int .u16 0), .d (.int .u16 0), .d (.int .u16 0), .d (.int .u16 0), .d (.bool false), .d (.int .u16 0), .d (.int .u64 0)])]) 0 (some (.var [.d (.int .u16 r1.a0), .d (.int .u16 r1.a1), .d (.int .u16 r1.a2), .d (.int .u16 r1.a3), .d (.int .u16 r1.a4), .d (.int .u16 r1.a5), .d (.int .u16 r1.a6), .d (.int .u16 r1.a7), .d (.bool true), .d (.int .u16 a1), .d (.int .u64 a2)])))) (n' := 1) rfl ?_
    exact RunOps.nil' (Norm.mk [0] (by decide) (by decide) (by decide) ⟨.ptr 0 _ _ (show 0 < 1 by decide), trivial⟩ ⟨⟨show 0 < 1 by decide, _, rfl, .vars ⟨.d _, .d _, .d _, .d _, .d _, .d _, .d _, .d _, .d _, .d _, .d _, trivial⟩⟩, trivial⟩)
  have hh := Option.some.inj h
  subst hh
  refine NWp.ret ?_
  show FQ _ _ _ _
  exact FQ.mk1 (.inr rfl) (res_cell (ds := [.int .u16 r1.a0, .int .u16 r1.a1, .int .u16 r1.a2, .int .u16 r1.a3, .int .u16 r1.a4, .int .u16 r1.a5, .int .u16 r1.a6, .int .u16 r1.a7, .bool true, .int .u16 a1, .int .u64 a2]) rfl rfl (show 11 ≤ 11 by decide) rfl rfl) (RV.d trivial)

theorem c_frame_two {m0 : Bool} {a0 : (List Int)} {a1 : Int} {r : (List Int)} (h : frame_two a0 a1 = some r) : SCall Try.prog 46 [.loc 0 0 a0.length, .d (.int .u16 a1)] (stab [(0, .lst m0 none (List.map (D.int .u8) a0))]) 1 (.loc 1 0 r.length) (stab [(1, .lst m0 none (List.map (D.int .u8) r))]) 2 := by
  refine SCall.introN (bl := [(0, .lst m0 none (List.map (D.int .u8) a0))]) (bl' := [(1, .lst m0 none (List.map (D.int .u8) r))]) ok46 (show 2 ≤ 13 by decide) rfl ?_
  refine NWp.norm (s0 := ⟨tab [(0, .loc 0 0 a0.length), (1, .d (.int .u16 a1))], stab [(0, .lst m0 none (List.map (D.int .u8) a0))], 1⟩) (Norm.mk [0] (by decide) (by decide) (by decide) ⟨.loc 0 _ _ (show 0 < 1 by decide), .d _, trivial⟩ ⟨⟨show 0 < 1 by decide, _, rfl, .lst _ _ _⟩, trivial⟩) ?_
  refine NWp.opsJ ⟨tab [(0, .loc 0 0 a0.length), (1, .d (.int .u16 a1))], stab [(0, .lst m0 none (List.map (D.int .u8) a0))], 1⟩ ?_ ?_
  · refine step (v := .d (eL none (D.int .u8) ([] : List Int))) rfl ?_
    exact RunOps.nil' (Norm.mk [0] (by decide) (by decide) (by decide) ⟨.loc 0 _ _ (show 0 < 1 by decide), .d _, trivial⟩ ⟨⟨show 0 < 1 by decide, _, rfl, .lst _ _ _⟩, trivial⟩)
  obtain ⟨l1, hl1, h⟩ := bindE h
  refine NWp.opsJ ⟨tab [(4, .loc 1 0 l1.length)], stab [(1, .lst m0 none (List.map (D.int .u8) l1))], 2⟩ ?_ ?_
  · refine step (v := .loc 0 0 a0.length) rfl ?_
    refine step (v := .d (.int .u16 a1)) rfl ?_
    refine step (v := .d (.int .u16 (a1.fdiv (2 ^ 8)))) rfl ?_
    refine step (v := .d (.int .u8 (IntKind.u8.wrap (a1.fdiv (2 ^ 8))))) rfl ?_
    refine step (v := .d (.int .u16 a1)) rfl ?_
    refine step (v := .d (.int .u8 (IntKind.u8.wrap a1))) rfl ?_
    refine step (v := .d (eL none (D.int .u8) ([IntKind.u8.wrap (a1.fdiv (2 ^ 8)), IntKind.u8.wrap a1] : List Int))) rfl ?_
    refine step (v := .loc 1 0 l1.length) (σ' := (upd (upd (stab [(0, .lst m0 none (List.map (D.int .u8) a0))]) 0 none) 1 (some (.lst m0 none (List.map (D.int .u8) l1))))) (n' := 2) (st_app (xs := a0) (ys := ([IntKind.u8.wrap (a1.fdiv (2 ^ 8)), IntKind.u8.wrap a1] : List Int)) (e := (D.int .u8)) hl1 rfl rfl rfl (src_v (xs := ([IntKind.u8.wrap (a1.fdiv (2 ^ 8)), IntKind.u8.wrap a1] : List Int)) (e := (D.int .u8)) rfl)) ?_
    refine step (v := .loc 1 0 l1.length) rfl ?_
    exact RunOps.nil' (Norm.mk [0, 1] (by decide) (by decide) (by decide) ⟨.loc 1 _ _ (show 1 < 2 by decide), trivial⟩ ⟨⟨show 1 < 2 by decide, _, rfl, .lst _ _ _⟩, trivial⟩)
  have hh := Option.some.inj h
  subst hh
  refine NWp.ret ?_
  exact ⟨.inr rfl, _, rfl, rfl, AllS.sub ⟨rfl, trivial⟩, rfl⟩

theorem c_frame_check {a0 : (List Int)} {r : Int} (h : frame_check a0 = some r) : PCall Try.prog 44 [eL none (D.int .u8) a0] (.int .u16 r) := by
  refine PCall.introN ok44 (show 1 ≤ 24 by decide) ?_
  refine NWp.norm (s0 := ⟨tab [(0, .d (eL none (D.int .u8) a0))], stab [], 0⟩) (Norm.mk [] (by decide) (by decide) (by decide) ⟨.d _, trivial⟩ trivial) ?_
  refine NWp.opsJ ⟨tab [(0, .d (eL none (D.int .u8) a0))], stab [], 0⟩ ?_ ?_
  · refine step (v := .d (.int .u16 0)) rfl ?_
    exact RunOps.nil' (Norm.mk [] (by decide) (by decide) (by decide) ⟨.d _, trivial⟩ trivial)
  refine NWp.opsJ ⟨tab [(0, .d (eL none (D.int .u8) a0)), (3, .d (.int .i64 0))], stab [], 0⟩ ?_ ?_
  · refine step (v := .d (.int .i64 0)) rfl ?_
    exact RunOps.nil' (Norm.mk [] (by decide) (by decide) (by decide) ⟨.d _, .d _, trivial⟩ trivial)
  refine NWp.seq ?_
  refine NWp.opsJ ⟨tab [(3, .d (.int .i64 0)), (6, .d (eL none (D.int .u8) a0)), (7, .d (.int .i64 (a0.length : Int))), (8, .d (.int .i64 0))], stab [], 0⟩ ?_ ?_
  · refine step (v := .d (eL none (D.int .u8) a0)) rfl ?_
    refine step (v := .d (.int .i64 (a0.length : Int))) (st_len (xs := a0) (e := (D.int .u8)) rfl) ?_
    refine step (v := .d (.int .i64 0)) rfl ?_
    exact RunOps.nil' (Norm.mk [] (by decide) (by decide) (by decide) ⟨.d _, .d _, .d _, .d _, trivial⟩ trivial)
  obtain ⟨z9, hl, h⟩ := bindE h
  refine NWp.block ?_
  refine loop_forO (cntU (a0.length : Int)) (fun (i2 : Int) (qq : Int) => ⟨tab [(3, .d (.int .i64 qq)), (6, .d (eL none (D.int .u8) a0)), (7, .d (.int .i64 (a0.length : Int))), (8, .d (.int .i64 i2))], stab [], 0⟩) 0 (fun (qq : Int) => ⟨tab [(3, .d (.int .i64 qq))], stab [], 0⟩) Low low_step hl (by unfold Low; omega) ?_ ?_ ?_
  · rintro i2 i1 xr7 hinv5 hgo4 h
    show NWp _ _ _ _ _ ⟨tab [(3, .d (.int .i64 i1)), (6, .d (eL none (D.int .u8) a0)), (7, .d (.int .i64 (a0.length : Int))), (8, .d (.int .i64 i2))], stab [], 0⟩
    have hc6 : decide (i2 < (a0.length : Int)) = true := decide_eq_true hgo4
    refine NWp.opsJ ⟨tab [(3, .d (.int .i64 i1)), (6, .d (eL none (D.int .u8) a0)), (7, .d (.int .i64 (a0.length : Int))), (8, .d (.int .i64 i2)), (9, .d (.bool (decide (i2 < (a0.length : Int)))))], stab [], 0⟩ ?_ ?_
    · refine step (v := .d (.bool (decide (i2 < (a0.length : Int))))) rfl ?_
      exact RunOps.nil' (Norm.mk [] (by decide) (by decide) (by decide) ⟨.d _, .d _, .d _, .d _, .d _, trivial⟩ trivial)
    refine NWp.rng 7 rfl fun hB3 => ?_
    refine NWp.seq ?_
    refine NWp.condT (t := decide (i2 < (a0.length : Int))) rfl hc6 ?_
    refine NWp.skip ?_
    refine NWp.seq ?_
    refine NWp.block ?_
    obtain ⟨x8, hx8, h⟩ := bindE h
    refine NWp.opsJ ⟨tab [(3, .d (.int .i64 i1)), (4, .d (.int .i64 i2)), (5, .d (.int .u8 x8)), (6, .d (eL none (D.int .u8) a0)), (7, .d (.int .i64 (a0.length : Int))), (8, .d (.int .i64 i2))], stab [], 0⟩ ?_ ?_
    · refine step (v := .d (.int .i64 i2)) rfl ?_
      refine step (v := .d (.cptr none (.int .u8 x8) 0)) (st_iaddr (xs := a0) (e := (D.int .u8)) hx8 rfl rfl) ?_
      refine step (v := .d (.int .u8 x8)) rfl ?_
      refine step (v := .d (.int .i64 i2)) rfl ?_
      refine step (v := .d (.int .u8 x8)) rfl ?_
      exact RunOps.nil' (Norm.mk [] (by decide) (by decide) (by decide) ⟨.d _, .d _, .d _, .d _, .d _, .d _, trivial⟩ trivial)
    refine NWp.opsE ⟨tab [(3, .d (.int .i64 (IntKind.i64.wrap (i1 + (IntKind.i64.wrap ((i2 + 1) * (IntKind.i64.wrap x8))))))), (6, .d (eL none (D.int .u8) a0)), (7, .d (.int .i64 (a0.length : Int))), (8, .d (.int .i64 i2))], stab [], 0⟩ ?_ ?_
    · refine step (v := .d (.int .i64 i1)) rfl ?_
      refine step (v := .d (.int .i64 i2)) rfl ?_
      refine step (v := .d (.int .i64 (i2 + 1))) (st_inc (inc_ok hinv5 hgo4 hB3) rfl rfl) ?_
      refine step (v := .d (.int .u8 x8)) rfl ?_
      refine step (v := .d (.int .i64 (IntKind.i64.wrap x8))) rfl ?_
      refine step (v := .d (.int .i64 (IntKind.i64.wrap ((i2 + 1) * (IntKind.i64.wrap x8))))) rfl ?_
      refine step (v := .d (.int .i64 (IntKind.i64.wrap (i1 + (IntKind.i64.wrap ((i2 + 1) * (IntKind.i64.wrap x8))))))) rfl ?_
      refine step (v := .d (.int .i64 (IntKind.i64.wrap (i1 + (IntKind.i64.wrap ((i2 + 1) * (IntKind.i64.wrap x8))))))) rfl ?_
      exact RunOps.nil' (Norm.mk [] (by decide) (by decide) (by decide) ⟨.d _, .d _, .d _, .d _, trivial⟩ trivial)
    have hh := Option.some.inj h
    subst hh
    refine NWp.opsE ⟨tab [(3, .d (.int .i64 (IntKind.i64.wrap (i1 + (IntKind.i64.wrap ((i2 + 1) * (IntKind.i64.wrap x8))))))), (6, .d (eL none (D.int .u8) a0)), (7, .d (.int .i64 (a0.length : Int))), (8, .d (.int .i64 (i2 + 1)))], stab [], 0⟩ ?_ ?_
    · refine step (v := .d (.int .i64 (i2 + 1))) (st_inc (inc_ok hinv5 hgo4 hB3) rfl rfl) ?_
      refine step (v := .d (.int .i64 (i2 + 1))) rfl ?_
      exact RunOps.nil' (Norm.mk [] (by decide) (by decide) (by decide) ⟨.d _, .d _, .d _, .d _, trivial⟩ trivial)
    exact And.intro rfl rfl
  · rintro i2 i1 hinv5 hgo4
    show NWp _ _ _ _ _ ⟨tab [(3, .d (.int .i64 i1)), (6, .d (eL none (D.int .u8) a0)), (7, .d (.int .i64 (a0.length : Int))), (8, .d (.int .i64 i2))], stab [], 0⟩
    have hc6 : ¬ (decide (i2 < (a0.length : Int)) = true) := fun hq => hgo4 (of_decide_eq_true hq)
    refine NWp.opsJ ⟨tab [(3, .d (.int .i64 i1)), (6, .d (eL none (D.int .u8) a0)), (7, .d (.int .i64 (a0.length : Int))), (8, .d (.int .i64 i2)), (9, .d (.bool (decide (i2 < (a0.length : Int)))))], stab [], 0⟩ ?_ ?_
    · refine step (v := .d (.bool (decide (i2 < (a0.length : Int))))) rfl ?_
      exact RunOps.nil' (Norm.mk [] (by decide) (by decide) (by decide) ⟨.d _, .d _, .d _, .d _, .d _, trivial⟩ trivial)
    refine NWp.seq ?_
    refine NWp.condF (t := decide (i2 < (a0.length : Int))) rfl hc6 ?_
    refine NWp.norm (s0 := ⟨tab [(3, .d (.int .i64 i1))], stab [], 0⟩) (Norm.mk [] (by decide) (by decide) (by decide) ⟨.d _, trivial⟩ trivial) ?_
    refine NWp.exit ?_
    exact And.intro rfl rfl
  refine NWp.opsJ ⟨tab [(2, .d (.int .u16 (IntKind.u16.wrap (z9.tmod 65521))))], stab [], 0⟩ ?_ ?_
  · refine step (v := .d (.int .i64 z9)) rfl ?_
    refine step (v := .d (.int .i64 (z9.tmod 65521))) rfl ?_
    refine step (v := .d (.int .u16 (IntKind.u16.wrap (z9.tmod 65521)))) rfl ?_
    refine step (v := .d (.int .u16 (IntKind.u16.wrap (z9.tmod 65521)))) rfl ?_
    exact RunOps.nil' (Norm.mk [] (by decide) (by decide) (by decide) ⟨.d _, trivial⟩ trivial)
  have hh := Option.some.inj h
  subst hh
  refine NWp.ret ?_
  show FQ _ _ _ _
  exact FQ.mk1 (.inr rfl) (res_t (v := .d (.int .u16 (IntKind.u16.wrap (z9.tmod 65521)))) rfl rfl) (RV.d trivial)

theorem c_frame_Encode {a0 : api_Frame} {r : ByteArray} (h : frame_Encode a0 = some r) : PCall Try.prog 25 [eapi_Frame a0] (.str r) := by
  refine PCall.introN ok25 (show 1 ≤ 43 by decide) ?_
  refine NWp.norm (s0 := ⟨tab [(0, .d (eapi_Frame a0))], stab [], 0⟩) (Norm.mk [] (by decide) (by decide) (by decide) ⟨.d _, trivial⟩ trivial) ?_
  refine NWp.opsJ ⟨tab [(1, .d (.cptr (some 11) (eapi_Frame a0) 0))], stab [], 0⟩ ?_ ?_
  · refine step (v := .d (.cptr (some 11) (eapi_Frame a0) 0)) rfl ?_
    refine step (v := .d (.str (⟨#[]⟩ : ByteArray))) rfl ?_
    exact RunOps.nil' (Norm.mk [] (by decide) (by decide) (by decide) ⟨.d _, trivial⟩ trivial)
  refine NWp.opsJ ⟨tab [(1, .d (.cptr (some 11) (eapi_Frame a0) 0)), (3, .loc 0 0 (([78, 0] : List Int).length))], stab [(0, .lst true none (List.map (D.int .u8) ([78, 0] : List Int)))], 1⟩ ?_ ?_
  · refine step (v := .loc 0 0 (([78, 0] : List Int).length)) (σ' := (upd (stab []) 0 (some (.lst true none (List.map (D.int .u8) ([78, 0] : List Int)))))) (n' := 1) rfl ?_
    refine step (v := .loc 0 0 (([78, 0] : List Int).length)) rfl ?_
    exact RunOps.nil' (Norm.mk [0] (by decide) (by decide) (by decide) ⟨.d _, .loc 0 _ _ (show 0 < 1 by decide), trivial⟩ ⟨⟨show 0 < 1 by decide, _, rfl, .lst _ _ _⟩, trivial⟩)
  refine NWp.seq ?_
  refine NWp.opsJ ⟨tab [(1, .d (.cptr (some 11) (eapi_Frame a0) 0)), (3, .loc 0 0 (([78, 0] : List Int).length)), (9, .d (eL none (D.int .u16) [a0.P.a2, a0.P.a3, a0.P.a4, a0.P.a5, a0.P.a6, a0.P.a7])), (10, .d (.int .i64 ([a0.P.a2, a0.P.a3, a0.P.a4, a0.P.a5, a0.P.a6, a0.P.a7].length : Int))), (11, .d (.int .i64 0))], stab [(0, .lst true none (List.map (D.int .u8) ([78, 0] : List Int)))], 1⟩ ?_ ?_
  · refine step (v := .d (.cptr (some 11) (eapi_Frame a0) 0)) rfl ?_
    refine step (v := .d (eL none (D.int .u16) [a0.P.a2, a0.P.a3, a0.P.a4, a0.P.a5, a0.P.a6, a0.P.a7])) rfl ?_
    refine step (v := .d (.int .i64 ([a0.P.a2, a0.P.a3, a0.P.a4, a0.P.a5, a0.P.a6, a0.P.a7].length : Int))) (st_len (xs := [a0.P.a2, a0.P.a3, a0.P.a4, a0.P.a5, a0.P.a6, a0.P.a7]) (e := (D.int .u16)) rfl) ?_
    refine step (v := .d (.int .i64 0)) rfl ?_
    exact RunOps.nil' (Norm.mk [0] (by decide) (by decide) (by decide) ⟨.d _, .loc 0 _ _ (show 0 < 1 by decide), .d _, .d _, .d _, trivial⟩ ⟨⟨show 0 < 1 by decide, _, rfl, .lst _ _ _⟩, trivial⟩)
  obtain ⟨z10, hl, h⟩ := bindE h
  refine NWp.block ?_
  refine loop_forO (cntU ([a0.P.a2, a0.P.a3, a0.P.a4, a0.P.a5, a0.P.a6, a0.P.a7].length : Int)) (fun (i2 : Int) (qq : (List Int)) => ⟨tab [(1, .d (.cptr (some 11) (eapi_Frame a0) 0)), (3, .loc 0 0 qq.length), (9, .d (eL none (D.int .u16) [a0.P.a2, a0.P.a3, a0.P.a4, a0.P.a5, a0.P.a6, a0.P.a7])), (10, .d (.int .i64 ([a0.P.a2, a0.P.a3, a0.P.a4, a0.P.a5, a0.P.a6, a0.P.a7].length : Int))), (11, .d (.int .i64 i2))], stab [(0, .lst true none (List.map (D.int .u8) qq))], 1⟩) 0 (fun (qq : (List Int)) => ⟨tab [(1, .d (.cptr (some 11) (eapi_Frame a0) 0)), (3, .loc 0 0 qq.length)], stab [(0, .lst true none (List.map (D.int .u8) qq))], 1⟩) Low low_step hl (by unfold Low; omega) ?_ ?_ ?_
  · rintro i2 l1 xr7 hinv5 hgo4 h
    show NWp _ _ _ _ _ ⟨tab [(1, .d (.cptr (some 11) (eapi_Frame a0) 0)), (3, .loc 0 0 l1.length), (9, .d (eL none (D.int .u16) [a0.P.a2, a0.P.a3, a0.P.a4, a0.P.a5, a0.P.a6, a0.P.a7])), (10, .d (.int .i64 ([a0.P.a2, a0.P.a3, a0.P.a4, a0.P.a5, a0.P.a6, a0.P.a7].length : Int))), (11, .d (.int .i64 i2))], stab [(0, .lst true none (List.map (D.int .u8) l1))], 1⟩
    have hc6 : decide (i2 < ([a0.P.a2, a0.P.a3, a0.P.a4, a0.P.a5, a0.P.a6, a0.P.a7].length : Int)) = true := decide_eq_true hgo4
    refine NWp.opsJ ⟨tab [(1, .d (.cptr (some 11) (eapi_Frame a0) 0)), (3, .loc 0 0 l1.length), (9, .d (eL none (D.int .u16) [a0.P.a2, a0.P.a3, a0.P.a4, a0.P.a5, a0.P.a6, a0.P.a7])), (10, .d (.int .i64 ([a0.P.a2, a0.P.a3, a0.P.a4, a0.P.a5, a0.P.a6, a0.P.a7].length : Int))), (11, .d (.int .i64 i2)), (12, .d (.bool (decide (i2 < ([a0.P.a2, a0.P.a3, a0.P.a4, a0.P.a5, a0.P.a6, a0.P.a7].length : Int)))))], stab [(0, .lst true none (List.map (D.int .u8) l1))], 1⟩ ?_ ?_
    · refine step (v := .d (.bool (decide (i2 < ([a0.P.a2, a0.P.a3, a0.P.a4, a0.P.a5, a0.P.a6, a0.P.a7].length : Int))))) rfl ?_
      exact RunOps.nil' (Norm.mk [0] (by decide) (by decide) (by decide) ⟨.d _, .loc 0 _ _ (show 0 < 1 by decide), .d _, .d _, .d _, .d _, trivial⟩ ⟨⟨show 0 < 1 by decide, _, rfl, .lst _ _ _⟩, trivial⟩)
    refine NWp.rng 10 rfl fun hB3 => ?_
    refine NWp.seq ?_
    refine NWp.condT (t := decide (i2 < ([a0.P.a2, a0.P.a3, a0.P.a4, a0.P.a5, a0.P.a6, a0.P.a7].length : Int))) rfl hc6 ?_
    refine NWp.skip ?_
    refine NWp.seq ?_
    refine NWp.block ?_
    obtain ⟨x8, hx8, h⟩ := bindE h
    refine NWp.opsJ ⟨tab [(1, .d (.cptr (some 11) (eapi_Frame a0) 0)), (3, .loc 0 0 l1.length), (5, .d (.int .u16 x8)), (9, .d (eL none (D.int .u16) [a0.P.a2, a0.P.a3, a0.P.a4, a0.P.a5, a0.P.a6, a0.P.a7])), (10, .d (.int .i64 ([a0.P.a2, a0.P.a3, a0.P.a4, a0.P.a5, a0.P.a6, a0.P.a7].length : Int))), (11, .d (.int .i64 i2))], stab [(0, .lst true none (List.map (D.int .u8) l1))], 1⟩ ?_ ?_
    · refine step (v := .d (.cptr none (.int .u16 x8) 0)) (st_iaddr (xs := [a0.P.a2, a0.P.a3, a0.P.a4, a0.P.a5, a0.P.a6, a0.P.a7]) (e := (D.int .u16)) hx8 rfl rfl) ?_
      refine step (v := .d (.int .u16 x8)) rfl ?_
      refine step (v := .d (.int .u16 x8)) rfl ?_
      exact RunOps.nil' (Norm.mk [0] (by decide) (by decide) (by decide) ⟨.d _, .loc 0 _ _ (show 0 < 1 by decide), .d _, .d _, .d _, .d _, trivial⟩ ⟨⟨show 0 < 1 by decide, _, rfl, .lst _ _ _⟩, trivial⟩)
    obtain ⟨r9, hr9, h⟩ := bindE h
    refine NWp.opsE ⟨tab [(1, .d (.cptr (some 11) (eapi_Frame a0) 0)), (3, .loc 0 0 r9.length), (9, .d (eL none (D.int .u16) [a0.P.a2, a0.P.a3, a0.P.a4, a0.P.a5, a0.P.a6, a0.P.a7])), (10, .d (.int .i64 ([a0.P.a2, a0.P.a3, a0.P.a4, a0.P.a5, a0.P.a6, a0.P.a7].length : Int))), (11, .d (.int .i64 i2))], stab [(0, .lst true none (List.map (D.int .u8) r9))], 1⟩ ?_ ?_
    · refine step (v := .loc 0 0 l1.length) rfl ?_
      refine step (v := .d (.int .u16 x8)) rfl ?_
      refine stepW (v := .loc 1 0 r9.length) (σ' := (upd (upd (stab [(0, .lst true none (List.map (D.int .u8) l1))]) 0 none) 1 (some (.lst true none (List.map (D.int .u8) r9))))) (n' := 2) (SCall.lift [0] (c_frame_two hr9) (show 1 ≤ 2 by decide) (by decide) (show ∀ i ∈ [0], i < 1 by decide) (dom_c (show 1 < 2 by decide) dom_n) (VNs.c (.loc 0 _ _ (show 0 < 1 by decide)) (VNs.c (.d _) VNs.nil0)) (SN.c (show 0 < 1 by decide) rfl (.lst _ _ _) SN.nil0)) (show 1 ≤ 2 by decide) ?_
      refine step (v := .loc 1 0 r9.length) rfl ?_
      exact RunOps.nil' (Norm.mk [1] (by decide) (by decide) (by decide) ⟨.d _, .loc 0 _ _ (show 0 < 1 by decide), .d _, .d _, .d _, trivial⟩ ⟨⟨show 0 < 1 by decide, _, rfl, .lst _ _ _⟩, trivial⟩)
    have hh := Option.some.inj h
    subst hh
    refine NWp.opsE ⟨tab [(1, .d (.cptr (some 11) (eapi_Frame a0) 0)), (3, .loc 0 0 r9.length), (9, .d (eL none (D.int .u16) [a0.P.a2, a0.P.a3, a0.P.a4, a0.P.a5, a0.P.a6, a0.P.a7])), (10, .d (.int .i64 ([a0.P.a2, a0.P.a3, a0.P.a4, a0.P.a5, a0.P.a6, a0.P.a7].length : Int))), (11, .d (.int .i64 (i2 + 1)))], stab [(0, .lst true none (List.map (D.int .u8) r9))], 1⟩ ?_ ?_
    · refine step (v := .d (.int .i64 (i2 + 1))) (st_inc (inc_ok hinv5 hgo4 hB3) rfl rfl) ?_
      refine step (v := .d (.int .i64 (i2 + 1))) rfl ?_
      exact RunOps.nil' (Norm.mk [0] (by decide) (by decide) (by decide) ⟨.d _, .loc 0 _ _ (show 0 < 1 by decide), .d _, .d _, .d _, trivial⟩ ⟨⟨show 0 < 1 by decide, _, rfl, .lst _ _ _⟩, trivial⟩)
    exact And.intro rfl rfl
  · rintro i2 l1 hinv5 hgo4
    show NWp _ _ _ _ _ ⟨tab [(1, .d (.cptr (some 11) (eapi_Frame a0) 0)), (3, .loc 0 0 l1.length), (9, .d (eL none (D.int .u16) [a0.P.a2, a0.P.a3, a0.P.a4, a0.P.a5, a0.P.a6, a0.P.a7])), (10, .d (.int .i64 ([a0.P.a2, a0.P.a3, a0.P.a4, a0.P.a5, a0.P.a6, a0.P.a7].length : Int))), (11, .d (.int .i64 i2))], stab [(0, .lst true none (List.map (D.int .u8) l1))], 1⟩
    have hc6 : ¬ (decide (i2 < ([a0.P.a2, a0.P.a3, a0.P.a4, a0.P.a5, a0.P.a6, a0.P.a7].length : Int)) = true) := fun hq => hgo4 (of_decide_eq_true hq)
    refine NWp.opsJ ⟨tab [(1, .d (.cptr (some 11) (eapi_Frame a0) 0)), (3, .loc 0 0 l1.length), (9, .d (eL none (D.int .u16) [a0.P.a2, a0.P.a3, a0.P.a4, a0.P.a5, a0.P.a6, a0.P.a7])), (10, .d (.int .i64 ([a0.P.a2, a0.P.a3, a0.P.a4, a0.P.a5, a0.P.a6, a0.P.a7].length : Int))), (11, .d (.int .i64 i2)), (12, .d (.bool (decide (i2 < ([a0.P.a2, a0.P.a3, a0.P.a4, a0.P.a5, a0.P.a6, a0.P.a7].length : Int)))))], stab [(0, .lst true none (List.map (D.int .u8) l1))], 1⟩ ?_ ?_
    · refine step (v := .d (.bool (decide (i2 < ([a0.P.a2, a0.P.a3, a0.P.a4, a0.P.a5, a0.P.a6, a0.P.a7].length : Int))))) rfl ?_
      exact RunOps.nil' (Norm.mk [0] (by decide) (by decide) (by decide) ⟨.d _, .loc 0 _ _ (show 0 < 1 by decide), .d _, .d _, .d _, .d _, trivial⟩ ⟨⟨show 0 < 1 by decide, _, rfl, .lst _ _ _⟩, trivial⟩)
    refine NWp.seq ?_
    refine NWp.condF (t := decide (i2 < ([a0.P.a2, a0.P.a3, a0.P.a4, a0.P.a5, a0.P.a6, a0.P.a7].length : Int))) rfl hc6 ?_
    refine NWp.norm (s0 := ⟨tab [(1, .d (.cptr (some 11) (eapi_Frame a0) 0)), (3, .loc 0 0 l1.length)], stab [(0, .lst true none (List.map (D.int .u8) l1))], 1⟩) (Norm.mk [0] (by decide) (by decide) (by decide) ⟨.d _, .loc 0 _ _ (show 0 < 1 by decide), trivial⟩ ⟨⟨show 0 < 1 by decide, _, rfl, .lst _ _ _⟩, trivial⟩) ?_
    refine NWp.exit ?_
    exact And.intro rfl rfl
  obtain ⟨l24, hv, h⟩ := bindE h
  refine NWp.seqN ⟨tab [(3, .loc 0 0 l24.length)], stab [(0, .lst true none (List.map (D.int .u8) l24))], 1⟩ ?_ ?_
  · replace h := hv
    refine NWp.opsJ ⟨tab [(1, .d (.cptr (some 11) (eapi_Frame a0) 0)), (3, .loc 0 0 z10.length), (20, .d (.bool a0.Tagged))], stab [(0, .lst true none (List.map (D.int .u8) z10))], 1⟩ ?_ ?_
    · refine step (v := .d (.cptr (some 11) (eapi_Frame a0) 8)) rfl ?_
      refine step (v := .d (.bool a0.Tagged)) rfl ?_
      exact RunOps.nil' (Norm.mk [0] (by decide) (by decide) (by decide) ⟨.d _, .loc 0 _ _ (show 0 < 1 by decide), .d _, trivial⟩ ⟨⟨show 0 < 1 by decide, _, rfl, .lst _ _ _⟩, trivial⟩)
    by_cases hc11 : a0.Tagged = true
    · replace h := iteT hc11 h
      refine NWp.condT (t := a0.Tagged) rfl hc11 ?_
      obtain ⟨x12, hx12, h⟩ := bindE h
      obtain ⟨l13, hl13, h⟩ := bindE h
      refine NWp.opsJ ⟨tab [(1, .d (.cptr (some 11) (eapi_Frame a0) 0)), (3, .loc 0 0 l13.length)], stab [(0, .lst true none (List.map (D.int .u8) l13))], 1⟩ ?_ ?_
      · refine step (v := .loc 0 0 z10.length) rfl ?_
        refine step (v := .ptr 0 (1 : Int).toNat 0) (st_iaddrL (xs := z10) (e := (D.int .u8)) hx12 rfl rfl rfl rfl) ?_
        refine step (v := V.undef) (σ' := (upd (stab [(0, .lst true none (List.map (D.int .u8) z10))]) 0 (some (.lst true none (List.map (D.int .u8) l13))))) (n' := 1) (st_storeL' (e := (D.int .u8)) (v' := 1) hl13 rfl rfl rfl rfl rfl) ?_
        exact RunOps.nil' (Norm.mk [0] (by decide) (by decide) (by decide) ⟨.d _, .le (id := 0) (gput_len hl13).symm (show 0 < 1 by decide), trivial⟩ ⟨⟨show 0 < 1 by decide, _, rfl, .lst _ _ _⟩, trivial⟩)
      obtain ⟨r14, hr14, h⟩ := bindE h
      refine NWp.opsJ ⟨tab [(1, .d (.cptr (some 11) (eapi_Frame a0) 0)), (3, .loc 0 0 r14.length)], stab [(0, .lst true none (List.map (D.int .u8) r14))], 1⟩ ?_ ?_
      · refine step (v := .loc 0 0 l13.length) rfl ?_
        refine step (v := .d (.cptr (some 11) (eapi_Frame a0) 9)) rfl ?_
        refine step (v := .d (.int .u16 a0.Tag)) rfl ?_
        refine stepW (v := .loc 1 0 r14.length) (σ' := (upd (upd (stab [(0, .lst true none (List.map (D.int .u8) l13))]) 0 none) 1 (some (.lst true none (List.map (D.int .u8) r14))))) (n' := 2) (SCall.lift [0] (c_frame_two hr14) (show 1 ≤ 2 by decide) (by decide) (show ∀ i ∈ [0], i < 1 by decide) (dom_c (show 1 < 2 by decide) dom_n) (VNs.c (.loc 0 _ _ (show 0 < 1 by decide)) (VNs.c (.d _) VNs.nil0)) (SN.c (show 0 < 1 by decide) rfl (.lst _ _ _) SN.nil0)) (show 1 ≤ 2 by decide) ?_
        refine step (v := .loc 1 0 r14.length) rfl ?_
        exact RunOps.nil' (Norm.mk [1] (by decide) (by decide) (by decide) ⟨.d _, .loc 0 _ _ (show 0 < 1 by decide), trivial⟩ ⟨⟨show 0 < 1 by decide, _, rfl, .lst _ _ _⟩, trivial⟩)
      refine NWp.opsJ ⟨tab [(1, .d (.cptr (some 11) (eapi_Frame a0) 0)), (3, .loc 0 0 r14.length), (6, .d (.int .i64 48))], stab [(0, .lst true none (List.map (D.int .u8) r14))], 1⟩ ?_ ?_
      · refine step (v := .d (.int .i64 48)) rfl ?_
        exact RunOps.nil' (Norm.mk [0] (by decide) (by decide) (by decide) ⟨.d _, .loc 0 _ _ (show 0 < 1 by decide), .d _, trivial⟩ ⟨⟨show 0 < 1 by decide, _, rfl, .lst _ _ _⟩, trivial⟩)
      obtain ⟨q23, hl, h⟩ := bindE h
      obtain ⟨z21, z22⟩ := q23
      refine NWp.block ?_
      refine loop_whK (fun (qq : ((List Int) × Int)) => ⟨tab [(1, .d (.cptr (some 11) (eapi_Frame a0) 0)), (3, .loc 0 0 qq.1.length), (6, .d (.int .i64 qq.2))], stab [(0, .lst true none (List.map (D.int .u8) qq.1))], 1⟩) 2 (fun (qq : ((List Int) × Int)) => ⟨tab [(3, .loc 0 0 qq.1.length)], stab [(0, .lst true none (List.map (D.int .u8) qq.1))], 1⟩) hl ?_ ?_
      · rintro ⟨l15, i16⟩ xr17 h
        show NWp _ _ _ _ _ ⟨tab [(1, .d (.cptr (some 11) (eapi_Frame a0) 0)), (3, .loc 0 0 l15.length), (6, .d (.int .i64 i16))], stab [(0, .lst true none (List.map (D.int .u8) l15))], 1⟩
        refine NWp.seq ?_
        refine NWp.opsJ ⟨tab [(1, .d (.cptr (some 11) (eapi_Frame a0) 0)), (3, .loc 0 0 l15.length), (6, .d (.int .i64 i16)), (28, .d (.bool (decide (i16 ≥ 0))))], stab [(0, .lst true none (List.map (D.int .u8) l15))], 1⟩ ?_ ?_
        · refine step (v := .d (.int .i64 i16)) rfl ?_
          refine step (v := .d (.bool (decide (i16 ≥ 0)))) rfl ?_
          exact RunOps.nil' (Norm.mk [0] (by decide) (by decide) (by decide) ⟨.d _, .loc 0 _ _ (show 0 < 1 by decide), .d _, .d _, trivial⟩ ⟨⟨show 0 < 1 by decide, _, rfl, .lst _ _ _⟩, trivial⟩)
        by_cases hc18 : decide (i16 ≥ 0) = true
        · replace h := iteT hc18 h
          refine NWp.condT (t := decide (i16 ≥ 0)) rfl hc18 ?_
          refine NWp.skip ?_
          refine NWp.seq ?_
          refine NWp.block ?_
          obtain ⟨q19, hq19, h⟩ := bindE h
          obtain ⟨r20, hr20, h⟩ := bindE h
          refine NWp.opsE ⟨tab [(1, .d (.cptr (some 11) (eapi_Frame a0) 0)), (3, .loc 0 0 r20.length), (6, .d (.int .i64 i16))], stab [(0, .lst true none (List.map (D.int .u8) r20))], 1⟩ ?_ ?_
          · refine step (v := .loc 0 0 l15.length) rfl ?_
            refine step (v := .d (.cptr (some 11) (eapi_Frame a0) 10)) rfl ?_
            refine step (v := .d (.int .u64 a0.Digest)) rfl ?_
            refine step (v := .d (.int .i64 i16)) rfl ?_
            refine step (v := .d (.int .u64 q19)) (st_shr hq19 rfl rfl) ?_
            refine step (v := .d (.int .u16 (IntKind.u16.wrap q19))) rfl ?_
            refine stepW (v := .loc 1 0 r20.length) (σ' := (upd (upd (stab [(0, .lst true none (List.map (D.int .u8) l15))]) 0 none) 1 (some (.lst true none (List.map (D.int .u8) r20))))) (n' := 2) (SCall.lift [0] (c_frame_two hr20) (show 1 ≤ 2 by decide) (by decide) (show ∀ i ∈ [0], i < 1 by decide) (dom_c (show 1 < 2 by decide) dom_n) (VNs.c (.loc 0 _ _ (show 0 < 1 by decide)) (VNs.c (.d _) VNs.nil0)) (SN.c (show 0 < 1 by decide) rfl (.lst _ _ _) SN.nil0)) (show 1 ≤ 2 by decide) ?_
            refine step (v := .loc 1 0 r20.length) rfl ?_
            exact RunOps.nil' (Norm.mk [1] (by decide) (by decide) (by decide) ⟨.d _, .loc 0 _ _ (show 0 < 1 by decide), .d _, trivial⟩ ⟨⟨show 0 < 1 by decide, _, rfl, .lst _ _ _⟩, trivial⟩)
          have hh := Option.some.inj h
          subst hh
          refine NWp.opsE ⟨tab [(1, .d (.cptr (some 11) (eapi_Frame a0) 0)), (3, .loc 0 0 r20.length), (6, .d (.int .i64 (IntKind.i64.wrap (i16 - 16))))], stab [(0, .lst true none (List.map (D.int .u8) r20))], 1⟩ ?_ ?_
          · refine step (v := .d (.int .i64 i16)) rfl ?_
            refine step (v := .d (.int .i64 (IntKind.i64.wrap (i16 - 16)))) rfl ?_
            refine step (v := .d (.int .i64 (IntKind.i64.wrap (i16 - 16)))) rfl ?_
            exact RunOps.nil' (Norm.mk [0] (by decide) (by decide) (by decide) ⟨.d _, .loc 0 _ _ (show 0 < 1 by decide), .d _, trivial⟩ ⟨⟨show 0 < 1 by decide, _, rfl, .lst _ _ _⟩, trivial⟩)
          exact And.intro rfl rfl
        · replace h := iteF hc18 h
          refine NWp.condF (t := decide (i16 ≥ 0)) rfl hc18 ?_
          have hh := Option.some.inj h
          subst hh
          refine NWp.norm (s0 := ⟨tab [(3, .loc 0 0 l15.length)], stab [(0, .lst true none (List.map (D.int .u8) l15))], 1⟩) (Norm.mk [0] (by decide) (by decide) (by decide) ⟨.loc 0 _ _ (show 0 < 1 by decide), trivial⟩ ⟨⟨show 0 < 1 by decide, _, rfl, .lst _ _ _⟩, trivial⟩) ?_
          refine NWp.exit ?_
          exact And.intro rfl rfl
      have hh := Option.some.inj h
      subst hh
      exact And.intro rfl rfl
    · replace h := iteF hc11 h
      refine NWp.condF (t := a0.Tagged) rfl hc11 ?_
      have hh := Option.some.inj h
      subst hh
      refine NWp.norm (s0 := ⟨tab [(3, .loc 0 0 z10.length)], stab [(0, .lst true none (List.map (D.int .u8) z10))], 1⟩) (Norm.mk [0] (by decide) (by decide) (by decide) ⟨.loc 0 _ _ (show 0 < 1 by decide), trivial⟩ ⟨⟨show 0 < 1 by decide, _, rfl, .lst _ _ _⟩, trivial⟩) ?_
      refine NWp.skip ?_
      exact And.intro rfl rfl
  obtain ⟨r26, hr26, h⟩ := bindE h
  obtain ⟨r27, hr27, h⟩ := bindE h
  refine NWp.opsJ ⟨tab [(2, .d (.str (strOfB r27)))], stab [], 0⟩ ?_ ?_
  · refine step (v := .loc 0 0 l24.length) rfl ?_
    refine step (v := .loc 0 0 l24.length) rfl ?_
    refine stepW (v := .d (.int .u16 r26)) (σ' := _) (n' := _) (PCall.borrow (c_frame_check hr26) rfl (ViewsB.c (viewB_all (xs := l24) (e := (D.int .u8)) rfl rfl) ViewsB.nil0)) (Nat.le_refl _) ?_
    refine stepW (v := .loc 1 0 r27.length) (σ' := (upd (upd (stab [(0, .lst true none (List.map (D.int .u8) l24))]) 0 none) 1 (some (.lst true none (List.map (D.int .u8) r27))))) (n' := 2) (SCall.lift [0] (c_frame_two hr27) (show 1 ≤ 2 by decide) (by decide) (show ∀ i ∈ [0], i < 1 by decide) (dom_c (show 1 < 2 by decide) dom_n) (VNs.c (.loc 0 _ _ (show 0 < 1 by decide)) (VNs.c (.d _) VNs.nil0)) (SN.c (show 0 < 1 by decide) rfl (.lst _ _ _) SN.nil0)) (show 1 ≤ 2 by decide) ?_
    refine step (v := .d (.str (strOfB r27))) (st_b2sL (xs := r27) rfl rfl rfl) ?_
    refine step (v := .d (.str (strOfB r27))) rfl ?_
    exact RunOps.nil' (Norm.mk [] (by decide) (by decide) (by decide) ⟨.d _, trivial⟩ trivial)
  have hh := Option.some.inj h
  subst hh
  refine NWp.ret ?_
  show FQ _ _ _ _
  exact FQ.mk1 (.inr rfl) (res_t (v := .d (.str (strOfB r27))) rfl rfl) (RV.d trivial)

theorem c_frame_reader_two {a0 : frame_reader} {r : (Int × frame_reader)} (h : frame_reader_two a0 = some r) : SCall Try.prog 43 [.ptr 0 0 0] (stab [(0, .var [.d (.str a0.s)])]) 1 (.d (.int .u16 r.1)) (stab [(0, .var [.d (.str r.2.s)])]) 1 := by
  refine SCall.introN (bl := [(0, .var [.d (.str a0.s)])]) (bl' := [(0, .var [.d (.str r.2.s)])]) ok43 (show 1 ≤ 27 by decide) rfl ?_
  refine NWp.norm (s0 := ⟨tab [(0, .ptr 0 0 0)], stab [(0, .var [.d (.str a0.s)])], 1⟩) (Norm.mk [0] (by decide) (by decide) (by decide) ⟨.ptr 0 _ _ (show 0 < 1 by decide), trivial⟩ ⟨⟨show 0 < 1 by decide, _, rfl, .vars ⟨.d _, trivial⟩⟩, trivial⟩) ?_
  refine NWp.opsJ ⟨tab [(0, .ptr 0 0 0)], stab [(0, .var [.d (.str a0.s)])], 1⟩ ?_ ?_
  · refine step (v := .d (.int .u16 0)) rfl ?_
    exact RunOps.nil' (Norm.mk [0] (by decide) (by decide) (by decide) ⟨.ptr 0 _ _ (show 0 < 1 by decide), trivial⟩ ⟨⟨show 0 < 1 by decide, _, rfl, .vars ⟨.d _, trivial⟩⟩, trivial⟩)
  obtain ⟨b1, hb1, h⟩ := bindE h
  obtain ⟨b2, hb2, h⟩ := bindE h
  refine NWp.opsJ ⟨tab [(0, .ptr 0 0 0), (3, .d (.int .u16 (orI .u16 (IntKind.u16.wrap ((IntKind.u16.wrap b1) * 2 ^ 8)) (IntKind.u16.wrap b2))))], stab [(0, .var [.d (.str a0.s)])], 1⟩ ?_ ?_
  · refine step (v := .ptr 0 0 0) rfl ?_
    refine step (v := .ptr 0 0 0) rfl ?_
    refine step (v := .ptr 0 0 0) rfl ?_
    refine step (v := .d (.str a0.s)) rfl ?_
    refine step (v := .d (.int .u8 b1)) (st_idxS hb1 rfl rfl) ?_
    refine step (v := .d (.int .u16 (IntKind.u16.wrap b1))) rfl ?_
    refine step (v := .d (.int .u16 (IntKind.u16.wrap ((IntKind.u16.wrap b1) * 2 ^ 8)))) rfl ?_
    refine step (v := .ptr 0 0 0) rfl ?_
    refine step (v := .ptr 0 0 0) rfl ?_
    refine step (v := .ptr 0 0 0) rfl ?_
    refine step (v := .d (.str a0.s)) rfl ?_
    refine step (v := .d (.int .u8 b2)) (st_idxS hb2 rfl rfl) ?_
    refine step (v := .d (.int .u16 (IntKind.u16.wrap b2))) rfl ?_
    refine step (v := .d (.int .u16 (orI .u16 (IntKind.u16.wrap ((IntKind.u16.wrap b1) * 2 ^ 8)) (IntKind.u16.wrap b2)))) rfl ?_
    refine step (v := .d (.int .u16 (orI .u16 (IntKind.u16.wrap ((IntKind.u16.wrap b1) * 2 ^ 8)) (IntKind.u16.wrap b2)))) rfl ?_
    exact RunOps.nil' (Norm.mk [0] (by decide) (by decide) (by decide) ⟨.ptr 0 _ _ (show 0 < 1 by decide), .d _, trivial⟩ ⟨⟨show 0 < 1 by decide, _, rfl, .vars ⟨.d _, trivial⟩⟩, trivial⟩)
  obtain ⟨s3, hs3, h⟩ := bindE h
  refine NWp.opsJ ⟨tab [(3, .d (.int .u16 (orI .u16 (IntKind.u16.wrap ((IntKind.u16.wrap b1) * 2 ^ 8)) (IntKind.u16.wrap b2))))], stab [(0, .var [.d (.str s3)])], 1⟩ ?_ ?_
  · refine step (v := .ptr 0 0 0) rfl ?_
    refine step (v := .ptr 0 0 0) rfl ?_
    refine step (v := .ptr 0 0 0) rfl ?_
    refine step (v := .ptr 0 0 0) rfl ?_
    refine step (v := .d (.str a0.s)) rfl ?_
    refine step (v := .d (.str s3)) (st_sstr hs3 rfl ⟨_, rfl⟩ rfl) ?_
    refine step (v := .ptr 0 0 0) rfl ?_
    refine step (v := .ptr 0 0 0) rfl ?_
    refine step (v := V.undef) (σ' := (upd (stab [(0, .var [.d (.str a0.s)])]) 0 (some (.var [.d (.str s3)])))) (n' := 1) rfl ?_
    exact RunOps.nil' (Norm.mk [0] (by decide) (by decide) (by decide) ⟨.d _, trivial⟩ ⟨⟨show 0 < 1 by decide, _, rfl, .vars ⟨.d _, trivial⟩⟩, trivial⟩)
  refine NWp.opsJ ⟨tab [(2, .d (.int .u16 (orI .u16 (IntKind.u16.wrap ((IntKind.u16.wrap b1) * 2 ^ 8)) (IntKind.u16.wrap b2))))], stab [(0, .var [.d (.str s3)])], 1⟩ ?_ ?_
  · refine step (v := .d (.int .u16 (orI .u16 (IntKind.u16.wrap ((IntKind.u16.wrap b1) * 2 ^ 8)) (IntKind.u16.wrap b2)))) rfl ?_
    refine step (v := .d (.int .u16 (orI .u16 (IntKind.u16.wrap ((IntKind.u16.wrap b1) * 2 ^ 8)) (IntKind.u16.wrap b2)))) rfl ?_
    exact RunOps.nil' (Norm.mk [0] (by decide) (by decide) (by decide) ⟨.d _, trivial⟩ ⟨⟨show 0 < 1 by decide, _, rfl, .vars ⟨.d _, trivial⟩⟩, trivial⟩)
  have hh := Option.some.inj h
  subst hh
  refine NWp.ret ?_
  exact ⟨.inr rfl, _, rfl, rfl, AllS.sub ⟨rfl, trivial⟩, rfl⟩

theorem c_frame_Decode {a0 : ByteArray} {r : (api_Frame × Int)} (h : frame_Decode a0 = some r) : PCall Try.prog 23 [.str a0] (.tup [eapi_Frame r.1, .int .i64 r.2]) := by
  refine PCall.introN ok23 (show 1 ≤ 74 by decide) ?_
  refine NWp.norm (s0 := ⟨tab [(0, .d (.str a0))], stab [], 0⟩) (Norm.mk [] (by decide) (by decide) (by decide) ⟨.d _, trivial⟩ trivial) ?_
  refine NWp.opsJ ⟨tab [(0, .d (.str a0)), (2, .ptr 0 0 0)], stab [(0, .var [.d (.int .u16 0), .d (.int .u16 0), .d (.int .u16 0), .d (.int .u16 0), .d (.int .u16 0), .d (.int .u16 0), .d (.int .u16 0), .d (.int .u16 0), .d (.bool false), .d (.int .u16 0), .d (.int .u64 0)])], 1⟩ ?_ ?_
  · refine step (v := .ptr 0 0 0) (σ' := (upd (stab []) 0 (some (.var [.d (.int .u16 0), .d (.int .u16 0), .d (.int .u16 0), .d (.int .u16 0), .d (.int .u16 0), .d (.int .u16 0), .d (.int .u16 0), .d (.int .u16 0), .d (.bool false), .d (.int .u16 0), .d (.int .u64 0)])))) (n' := 1) rfl ?_
    refine step (v := .d (.int .i64 0)) rfl ?_
    exact RunOps.nil' (Norm.mk [0] (by decide) (by decide) (by decide) ⟨.d _, .ptr 0 _ _ (show 0 < 1 by decide), trivial⟩ ⟨⟨show 0 < 1 by decide, _, rfl, .vars ⟨.d _, .d _, .d _, .d _, .d _, .d _, .d _, .d _, .d _, .d _, .d _, trivial⟩⟩, trivial⟩)
  refine NWp.opsJ ⟨tab [(0, .d (.str a0)), (2, .ptr 0 0 0), (4, .d (.int .u8 0))], stab [(0, .var [.d (.int .u16 0), .d (.int .u16 0), .d (.int .u16 0), .d (.int .u16 0), .d (.int .u16 0), .d (.int .u16 0), .d (.int .u16 0), .d (.int .u16 0), .d (.bool false), .d (.int .u16 0), .d (.int .u64 0)])], 1⟩ ?_ ?_
  · refine step (v := .d (.int .u8 0)) rfl ?_
    exact RunOps.nil' (Norm.mk [0] (by decide) (by decide) (by decide) ⟨.d _, .ptr 0 _ _ (show 0 < 1 by decide), .d _, trivial⟩ ⟨⟨show 0 < 1 by decide, _, rfl, .vars ⟨.d _, .d _, .d _, .d _, .d _, .d _, .d _, .d _, .d _, .d _, .d _, trivial⟩⟩, trivial⟩)
  obtain ⟨q4, hv, h⟩ := bindE h
  refine NWp.seqS (fun (qq : Int) => ⟨tab [(0, .d (.str a0)), (2, .ptr 0 0 0), (4, .d (.int .u8 qq))], stab [(0, .var [.d (.int .u16 0), .d (.int .u16 0), .d (.int .u16 0), .d (.int .u16 0), .d (.int .u16 0), .d (.int .u16 0), .d (.int .u16 0), .d (.int .u16 0), .d (.bool false), .d (.int .u16 0), .d (.int .u64 0)])], 1⟩) (xv := q4) (r := r) ?_ ?_ ?_
  · replace h := hv
    refine NWp.opsJ ⟨tab [(0, .d (.str a0)), (2, .ptr 0 0 0), (4, .d (.int .u8 0)), (11, .d (.int .i64 (a0.size : Int)))], stab [(0, .var [.d (.int .u16 0), .d (.int .u16 0), .d (.int .u16 0), .d (.int .u16 0), .d (.int .u16 0), .d (.int .u16 0), .d (.int .u16 0), .d (.int .u16 0), .d (.bool false), .d (.int .u16 0), .d (.int .u64 0)])], 1⟩ ?_ ?_
    · refine step (v := .d (.str a0)) rfl ?_
      refine step (v := .d (.int .i64 (a0.size : Int))) rfl ?_
      exact RunOps.nil' (Norm.mk [0] (by decide) (by decide) (by decide) ⟨.d _, .ptr 0 _ _ (show 0 < 1 by decide), .d _, .d _, trivial⟩ ⟨⟨show 0 < 1 by decide, _, rfl, .vars ⟨.d _, .d _, .d _, .d _, .d _, .d _, .d _, .d _, .d _, .d _, .d _, trivial⟩⟩, trivial⟩)
    refine NWp.block ?_
    refine NWp.opsJ ⟨tab [(0, .d (.str a0)), (2, .ptr 0 0 0), (4, .d (.int .u8 0)), (11, .d (.int .i64 (a0.size : Int))), (13, .d (.bool ((a0.size : Int) == 16)))], stab [(0, .var [.d (.int .u16 0), .d (.int .u16 0), .d (.int .u16 0), .d (.int .u16 0), .d (.int .u16 0), .d (.int .u16 0), .d (.int .u16 0), .d (.int .u16 0), .d (.bool false), .d (.int .u16 0), .d (.int .u64 0)])], 1⟩ ?_ ?_
    · refine step (v := .d (.bool ((a0.size : Int) == 16))) rfl ?_
      refine step (v := .d (.bool ((a0.size : Int) == 16))) rfl ?_
      exact RunOps.nil' (Norm.mk [0] (by decide) (by decide) (by decide) ⟨.d _, .ptr 0 _ _ (show 0 < 1 by decide), .d _, .d _, .d _, trivial⟩ ⟨⟨show 0 < 1 by decide, _, rfl, .vars ⟨.d _, .d _, .d _, .d _, .d _, .d _, .d _, .d _, .d _, .d _, .d _, trivial⟩⟩, trivial⟩)
    by_cases hc1 : ((a0.size : Int) == 16) = true
    · replace h := iteT hc1 h
      refine NWp.condT (t := ((a0.size : Int) == 16)) rfl hc1 ?_
      have hh := Option.some.inj h
      subst hh
      refine NWp.norm (s0 := ⟨tab [(0, .d (.str a0)), (2, .ptr 0 0 0), (4, .d (.int .u8 0))], stab [(0, .var [.d (.int .u16 0), .d (.int .u16 0), .d (.int .u16 0), .d (.int .u16 0), .d (.int .u16 0), .d (.int .u16 0), .d (.int .u16 0), .d (.int .u16 0), .d (.bool false), .d (.int .u16 0), .d (.int .u64 0)])], 1⟩) (Norm.mk [0] (by decide) (by decide) (by decide) ⟨.d _, .ptr 0 _ _ (show 0 < 1 by decide), .d _, trivial⟩ ⟨⟨show 0 < 1 by decide, _, rfl, .vars ⟨.d _, .d _, .d _, .d _, .d _, .d _, .d _, .d _, .d _, .d _, .d _, trivial⟩⟩, trivial⟩) ?_
      refine NWp.skip ?_
      exact And.intro rfl rfl
    · replace h := iteF hc1 h
      refine NWp.condF (t := ((a0.size : Int) == 16)) rfl hc1 ?_
      refine NWp.opsJ ⟨tab [(0, .d (.str a0)), (2, .ptr 0 0 0), (15, .d (.bool ((a0.size : Int) == 26)))], stab [(0, .var [.d (.int .u16 0), .d (.int .u16 0), .d (.int .u16 0), .d (.int .u16 0), .d (.int .u16 0), .d (.int .u16 0), .d (.int .u16 0), .d (.int .u16 0), .d (.bool false), .d (.int .u16 0), .d (.int .u64 0)])], 1⟩ ?_ ?_
      · refine step (v := .d (.bool ((a0.size : Int) == 26))) rfl ?_
        refine step (v := .d (.bool ((a0.size : Int) == 26))) rfl ?_
        exact RunOps.nil' (Norm.mk [0] (by decide) (by decide) (by decide) ⟨.d _, .ptr 0 _ _ (show 0 < 1 by decide), .d _, trivial⟩ ⟨⟨show 0 < 1 by decide, _, rfl, .vars ⟨.d _, .d _, .d _, .d _, .d _, .d _, .d _, .d _, .d _, .d _, .d _, trivial⟩⟩, trivial⟩)
      by_cases hc2 : ((a0.size : Int) == 26) = true
      · replace h := iteT hc2 h
        refine NWp.condT (t := ((a0.size : Int) == 26)) rfl hc2 ?_
        have hh := Option.some.inj h
        subst hh
        refine NWp.opsE ⟨tab [(0, .d (.str a0)), (2, .ptr 0 0 0), (4, .d (.int .u8 1))], stab [(0, .var [.d (.int .u16 0), .d (.int .u16 0), .d (.int .u16 0), .d (.int .u16 0), .d (.int .u16 0), .d (.int .u16 0), .d (.int .u16 0), .d (.int .u16 0), .d (.bool false), .d (.int .u16 0), .d (.int .u64 0)])], 1⟩ ?_ ?_
        · refine step (v := .d (.int .u8 1)) rfl ?_
          exact RunOps.nil' (Norm.mk [0] (by decide) (by decide) (by decide) ⟨.d _, .ptr 0 _ _ (show 0 < 1 by decide), .d _, trivial⟩ ⟨⟨show 0 < 1 by decide, _, rfl, .vars ⟨.d _, .d _, .d _, .d _, .d _, .d _, .d _, .d _, .d _, .d _, .d _, trivial⟩⟩, trivial⟩)
        exact And.intro rfl rfl
      · replace h := iteF hc2 h
        refine NWp.condF (t := ((a0.size : Int) == 26)) rfl hc2 ?_
        refine NWp.opsJ ⟨tab [(2, .ptr 0 0 0), (3, .d (.int .i64 30))], stab [(0, .var [.d (.int .u16 0), .d (.int .u16 0), .d (.int .u16 0), .d (.int .u16 0), .d (.int .u16 0), .d (.int .u16 0), .d (.int .u16 0), .d (.int .u16 0), .d (.bool false), .d (.int .u16 0), .d (.int .u64 0)])], 1⟩ ?_ ?_
        · refine step (v := .d (eapi_Frame (api_Frame.mk (A8.mk 0 0 0 0 0 0 0 0) false 0 0))) (st_build (ds := [.int .u16 0, .int .u16 0, .int .u16 0, .int .u16 0, .int .u16 0, .int .u16 0, .int .u16 0, .int .u16 0, .bool false, .int .u16 0, .int .u64 0]) rfl) ?_
          refine step (v := V.undef) (σ' := (upd (stab [(0, .var [.d (.int .u16 0), .d (.int .u16 0), .d (.int .u16 0), .d (.int .u16 0), .d (.int .u16 0), .d (.int .u16 0), .d (.int .u16 0), .d (.int .u16 0), .d (.bool false), .d (.int .u16 0), .d (.int .u64 0)])]) 0 (some (.var [.d (.int .u16 0), .d (.int .u16 0), .d (.int .u16 0), .d (.int .u16 0), .d (.int .u16 0), .d (.int .u16 0), .d (.int .u16 0), .d (.int .u16 0), .d (.bool false), .d (.int .u16 0), .d (.int .u64 0)])))) (n' := 1) rfl ?_
          refine step (v := .d (.int .i64 30)) rfl ?_
          exact RunOps.nil' (Norm.mk [0] (by decide) (by decide) (by decide) ⟨.ptr 0 _ _ (show 0 < 1 by decide), .d _, trivial⟩ ⟨⟨show 0 < 1 by decide, _, rfl, .vars ⟨.d _, .d _, .d _, .d _, .d _, .d _, .d _, .d _, .d _, .d _, .d _, trivial⟩⟩, trivial⟩)
        obtain ⟨r3, kr3, hr⟩ := mapE (o := some ((api_Frame.mk (A8.mk 0 0 0 0 0 0 0 0) false 0 0), 30)) (g := Sum.inr) h
        subst hr
        have h := kr3
        have hh := Option.some.inj h
        subst hh
        refine NWp.ret ?_
        refine And.intro (fun hn => nomatch hn) ?_
        intro hq
        have hq := hq.symm
        subst hq
        show FQ _ _ _ _
        exact FQ.mkT (.inr rfl) (res_cell (ds := [.int .u16 0, .int .u16 0, .int .u16 0, .int .u16 0, .int .u16 0, .int .u16 0, .int .u16 0, .int .u16 0, .bool false, .int .u16 0, .int .u64 0]) rfl rfl (show 11 ≤ 11 by decide) rfl (res_t (v := .d (.int .i64 30)) rfl rfl)) (RV.d (RV.d trivial))
  · intro r' hq
    subst hq
    exact Option.some.inj h
  rintro y3 rfl
  show NWp _ _ _ _ _ ⟨tab [(0, .d (.str a0)), (2, .ptr 0 0 0), (4, .d (.int .u8 y3))], stab [(0, .var [.d (.int .u16 0), .d (.int .u16 0), .d (.int .u16 0), .d (.int .u16 0), .d (.int .u16 0), .d (.int .u16 0), .d (.int .u16 0), .d (.int .u16 0), .d (.bool false), .d (.int .u16 0), .d (.int .u64 0)])], 1⟩
  obtain ⟨s5, hs5, h⟩ := bindE h
  refine NWp.opsJ ⟨tab [(0, .d (.str a0)), (2, .ptr 0 0 0), (4, .d (.int .u8 y3)), (5, .d (.str s5))], stab [(0, .var [.d (.int .u16 0), .d (.int .u16 0), .d (.int .u16 0), .d (.int .u16 0), .d (.int .u16 0), .d (.int .u16 0), .d (.int .u16 0), .d (.int .u16 0), .d (.bool false), .d (.int .u16 0), .d (.int .u64 0)])], 1⟩ ?_ ?_
  · refine step (v := .d (.str a0)) rfl ?_
    refine step (v := .d (.str a0)) rfl ?_
    refine step (v := .d (.int .i64 (a0.size : Int))) rfl ?_
    refine step (v := .d (.int .i64 (IntKind.i64.wrap ((a0.size : Int) - 2)))) rfl ?_
    refine step (v := .d (.str s5)) (st_sstr hs5 rfl rfl ⟨_, rfl⟩) ?_
    refine step (v := .d (.str s5)) rfl ?_
    exact RunOps.nil' (Norm.mk [0] (by decide) (by decide) (by decide) ⟨.d _, .ptr 0 _ _ (show 0 < 1 by decide), .d _, .d _, trivial⟩ ⟨⟨show 0 < 1 by decide, _, rfl, .vars ⟨.d _, .d _, .d _, .d _, .d _, .d _, .d _, .d _, .d _, .d _, .d _, trivial⟩⟩, trivial⟩)
  obtain ⟨s6, hs6, h⟩ := bindE h
  refine NWp.opsJ ⟨tab [(0, .d (.str a0)), (2, .ptr 0 0 0), (4, .d (.int .u8 y3)), (5, .d (.str s5)), (6, .ptr 1 0 0)], stab [(0, .var [.d (.int .u16 0), .d (.int .u16 0), .d (.int .u16 0), .d (.int .u16 0), .d (.int .u16 0), .d (.int .u16 0), .d (.int .u16 0), .d (.int .u16 0), .d (.bool false), .d (.int .u16 0), .d (.int .u64 0)]), (1, .var [.d (.str s6)])], 2⟩ ?_ ?_
  · refine step (v := .d (.str a0)) rfl ?_
    refine step (v := .d (.str a0)) rfl ?_
    refine step (v := .d (.int .i64 (a0.size : Int))) rfl ?_
    refine step (v := .d (.int .i64 (IntKind.i64.wrap ((a0.size : Int) - 2)))) rfl ?_
    refine step (v := .d (.str s6)) (st_sstr hs6 rfl ⟨_, rfl⟩ rfl) ?_
    refine step (v := .d (eframe_reader (frame_reader.mk s6))) (st_build (ds := [.str s6]) rfl) ?_
    refine step (v := .ptr 1 0 0) (σ' := (upd (stab [(0, .var [.d (.int .u16 0), .d (.int .u16 0), .d (.int .u16 0), .d (.int .u16 0), .d (.int .u16 0), .d (.int .u16 0), .d (.int .u16 0), .d (.int .u16 0), .d (.bool false), .d (.int .u16 0), .d (.int .u64 0)])]) 1 (some (.var [.d (.str (⟨#[]⟩ : ByteArray))])))) (n' := 2) rfl ?_
    refine step (v := V.undef) (σ' := (upd (upd (stab [(0, .var [.d (.int .u16 0), .d (.int .u16 0), .d (.int .u16 0), .d (.int .u16 0), .d (.int .u16 0), .d (.int .u16 0), .d (.int .u16 0), .d (.int .u16 0), .d (.bool false), .d (.int .u16 0), .d (.int .u64 0)])]) 1 (some (.var [.d (.str (⟨#[]⟩ : ByteArray))]))) 1 (some (.var [.d (.str s6)])))) (n' := 2) rfl ?_
    exact RunOps.nil' (Norm.mk [0, 1] (by decide) (by decide) (by decide) ⟨.d _, .ptr 0 _ _ (show 0 < 2 by decide), .d _, .d _, .ptr 1 _ _ (show 1 < 2 by decide), trivial⟩ ⟨⟨show 0 < 2 by decide, _, rfl, .vars ⟨.d _, .d _, .d _, .d _, .d _, .d _, .d _, .d _, .d _, .d _, .d _, trivial⟩⟩, ⟨show 1 < 2 by decide, _, rfl, .vars ⟨.d _, trivial⟩⟩, trivial⟩)
  refine NWp.seq ?_
  obtain ⟨b7, hb7, h⟩ := bindE h
  obtain ⟨y14, hv, h⟩ := bindE h
  refine NWp.opsJ ⟨tab [(2, .ptr 0 0 0), (4, .d (.int .u8 y3)), (5, .d (.str s5)), (43, .d (.bool y14))], stab [(0, .var [.d (.int .u16 0), .d (.int .u16 0), .d (.int .u16 0), .d (.int .u16 0), .d (.int .u16 0), .d (.int .u16 0), .d (.int .u16 0), .d (.int .u16 0), .d (.bool false), .d (.int .u16 0), .d (.int .u64 0)])], 1⟩ ?_ ?_
  · refine step (v := .d (.str a0)) rfl ?_
    refine step (v := .d (.int .u8 b7)) (st_idxS hb7 rfl rfl) ?_
    refine step (v := .d (.bool (b7 != 78))) rfl ?_
    refine step (v := .d (.bool (b7 != 78))) rfl ?_
    by_cases hg8 : (b7 != 78) = true
    · replace hv := iteT hg8 hv
      refine stepX (c := (b7 != 78)) rfl (by rw [hg8]; decide) ?_
      refine stepX (c := (b7 != 78)) rfl (by rw [hg8]; decide) ?_
      refine stepX (c := (b7 != 78)) rfl (by rw [hg8]; decide) ?_
      refine stepX (c := (b7 != 78)) rfl (by rw [hg8]; decide) ?_
      refine step (v := .d (.bool true)) (st_pickT (b := (b7 != 78)) rfl hg8 rfl) ?_
      refine step (v := .d (.bool true)) rfl ?_
      refine stepX (c := true) rfl (by decide) ?_
      refine stepX (c := true) rfl (by decide) ?_
      refine stepX (c := true) rfl (by decide) ?_
      refine stepX (c := true) rfl (by decide) ?_
      refine stepX (c := true) rfl (by decide) ?_
      refine step (v := .d (.bool true)) (st_pickT (b := true) rfl rfl rfl) ?_
      have hh := Option.some.inj hv
      subst hh
      exact RunOps.nil' (Norm.mk [0] (by decide) (by decide) (by decide) ⟨.ptr 0 _ _ (show 0 < 1 by decide), .d _, .d _, .d _, trivial⟩ ⟨⟨show 0 < 1 by decide, _, rfl, .vars ⟨.d _, .d _, .d _, .d _, .d _, .d _, .d _, .d _, .d _, .d _, .d _, trivial⟩⟩, trivial⟩)
    · replace hv := iteF hg8 hv
      obtain ⟨b9, hb9, hv⟩ := bindE hv
      refine stepG (c := (b7 != 78)) rfl (Bool.eq_false_iff.2 hg8) ?_
      refine step (v := .d (.str a0)) rfl ?_
      refine stepG (c := (b7 != 78)) rfl (Bool.eq_false_iff.2 hg8) ?_
      refine step (v := .d (.int .u8 b9)) (st_idxS hb9 rfl rfl) ?_
      refine stepG (c := (b7 != 78)) rfl (Bool.eq_false_iff.2 hg8) ?_
      refine step (v := .d (.int .u8 y3)) rfl ?_
      refine stepG (c := (b7 != 78)) rfl (Bool.eq_false_iff.2 hg8) ?_
      refine step (v := .d (.bool (b9 != y3))) rfl ?_
      refine step (v := .d (.bool (b9 != y3))) (st_pickF (b := (b7 != 78)) rfl hg8 rfl) ?_
      refine step (v := .d (.bool (b9 != y3))) rfl ?_
      by_cases hg10 : (b9 != y3) = true
      · replace hv := iteT hg10 hv
        refine stepX (c := (b9 != y3)) rfl (by rw [hg10]; decide) ?_
        refine stepX (c := (b9 != y3)) rfl (by rw [hg10]; decide) ?_
        refine stepX (c := (b9 != y3)) rfl (by rw [hg10]; decide) ?_
        refine stepX (c := (b9 != y3)) rfl (by rw [hg10]; decide) ?_
        refine stepX (c := (b9 != y3)) rfl (by rw [hg10]; decide) ?_
        refine step (v := .d (.bool true)) (st_pickT (b := (b9 != y3)) rfl hg10 rfl) ?_
        have hh := Option.some.inj hv
        subst hh
        exact RunOps.nil' (Norm.mk [0] (by decide) (by decide) (by decide) ⟨.ptr 0 _ _ (show 0 < 1 by decide), .d _, .d _, .d _, trivial⟩ ⟨⟨show 0 < 1 by decide, _, rfl, .vars ⟨.d _, .d _, .d _, .d _, .d _, .d _, .d _, .d _, .d _, .d _, .d _, trivial⟩⟩, trivial⟩)
      · replace hv := iteF hg10 hv
        obtain ⟨r11, hr11, hv⟩ := bindE hv
        obtain ⟨l12, hl12, hv⟩ := bindE hv
        obtain ⟨r13, hr13, hv⟩ := bindE hv
        refine stepG (c := (b9 != y3)) rfl (Bool.eq_false_iff.2 hg10) ?_
        refine stepW (v := .d (.int .u16 r11.1)) (σ' := (upd (upd (stab [(0, .var [.d (.int .u16 0), .d (.int .u16 0), .d (.int .u16 0), .d (.int .u16 0), .d (.int .u16 0), .d (.int .u16 0), .d (.int .u16 0), .d (.int .u16 0), .d (.bool false), .d (.int .u16 0), .d (.int .u64 0)]), (1, .var [.d (.str s6)])]) 1 none) 1 (some (.var [.d (.str r11.2.s)])))) (n' := 2) (SCall.lift [1] (c_frame_reader_two hr11) (show 1 ≤ 1 by decide) (by decide) (show ∀ i ∈ [1], i < 2 by decide) (dom_c (show 0 < 1 by decide) dom_n) (VNs.c (.ptr 0 _ _ (show 0 < 1 by decide)) VNs.nil0) (SN.c (show 0 < 1 by decide) rfl (.vars (VNs.c (.d _) VNs.nil0)) SN.nil0)) (show 2 ≤ 2 by decide) ?_
        refine stepG (c := (b9 != y3)) rfl (Bool.eq_false_iff.2 hg10) ?_
        refine step (v := .d (.str s5)) rfl ?_
        refine stepG (c := (b9 != y3)) rfl (Bool.eq_false_iff.2 hg10) ?_
        refine step (v := .loc 2 0 l12.length) (σ' := (upd (upd (upd (stab [(0, .var [.d (.int .u16 0), .d (.int .u16 0), .d (.int .u16 0), .d (.int .u16 0), .d (.int .u16 0), .d (.int .u16 0), .d (.int .u16 0), .d (.int .u16 0), .d (.bool false), .d (.int .u16 0), .d (.int .u64 0)]), (1, .var [.d (.str s6)])]) 1 none) 1 (some (.var [.d (.str r11.2.s)]))) 2 (some (.lst false none (List.map (D.int .u8) l12))))) (n' := 3) (st_s2b' hl12 rfl) ?_
        refine stepG (c := (b9 != y3)) rfl (Bool.eq_false_iff.2 hg10) ?_
        refine stepC (r := .int .u16 r13) (ArgsOk.lcm (xs := l12) (e := (D.int .u8)) rfl rfl ArgsOk.nil') (c_frame_check hr13) ?_
        refine stepG (c := (b9 != y3)) rfl (Bool.eq_false_iff.2 hg10) ?_
        refine step (v := .d (.bool (r11.1 != r13))) rfl ?_
        refine step (v := .d (.bool (r11.1 != r13))) (st_pickF (b := (b9 != y3)) rfl hg10 rfl) ?_
        have hh := Option.some.inj hv
        subst hh
        exact RunOps.nil' (Norm.mk [0] (by decide) (by decide) (by decide) ⟨.ptr 0 _ _ (show 0 < 1 by decide), .d _, .d _, .d _, trivial⟩ ⟨⟨show 0 < 1 by decide, _, rfl, .vars ⟨.d _, .d _, .d _, .d _, .d _, .d _, .d _, .d _, .d _, .d _, .d _, trivial⟩⟩, trivial⟩)
  by_cases hc16 : y14 = true
  · replace h := iteT hc16 h
    refine NWp.condT (t := y14) rfl hc16 ?_
    refine NWp.opsJ ⟨tab [(2, .ptr 0 0 0), (3, .d (.int .i64 30))], stab [(0, .var [.d (.int .u16 0), .d (.int .u16 0), .d (.int .u16 0), .d (.int .u16 0), .d (.int .u16 0), .d (.int .u16 0), .d (.int .u16 0), .d (.int .u16 0), .d (.bool false), .d (.int .u16 0), .d (.int .u64 0)])], 1⟩ ?_ ?_
    · refine step (v := .d (eapi_Frame (api_Frame.mk (A8.mk 0 0 0 0 0 0 0 0) false 0 0))) (st_build (ds := [.int .u16 0, .int .u16 0, .int .u16 0, .int .u16 0, .int .u16 0, .int .u16 0, .int .u16 0, .int .u16 0, .bool false, .int .u16 0, .int .u64 0]) rfl) ?_
      refine step (v := V.undef) (σ' := (upd (stab [(0, .var [.d (.int .u16 0), .d (.int .u16 0), .d (.int .u16 0), .d (.int .u16 0), .d (.int .u16 0), .d (.int .u16 0), .d (.int .u16 0), .d (.int .u16 0), .d (.bool false), .d (.int .u16 0), .d (.int .u64 0)])]) 0 (some (.var [.d (.int .u16 0), .d (.int .u16 0), .d (.int .u16 0), .d (.int .u16 0), .d (.int .u16 0), .d (.int .u16 0), .d (.int .u16 0), .d (.int .u16 0), .d (.bool false), .d (.int .u16 0), .d (.int .u64 0)])))) (n' := 1) rfl ?_
      refine step (v := .d (.int .i64 30)) rfl ?_
      exact RunOps.nil' (Norm.mk [0] (by decide) (by decide) (by decide) ⟨.ptr 0 _ _ (show 0 < 1 by decide), .d _, trivial⟩ ⟨⟨show 0 < 1 by decide, _, rfl, .vars ⟨.d _, .d _, .d _, .d _, .d _, .d _, .d _, .d _, .d _, .d _, .d _, trivial⟩⟩, trivial⟩)
    have hh := Option.some.inj h
    subst hh
    refine NWp.ret ?_
    show FQ _ _ _ _
    exact FQ.mkT (.inr rfl) (res_cell (ds := [.int .u16 0, .int .u16 0, .int .u16 0, .int .u16 0, .int .u16 0, .int .u16 0, .int .u16 0, .int .u16 0, .bool false, .int .u16 0, .int .u64 0]) rfl rfl (show 11 ≤ 11 by decide) rfl (res_t (v := .d (.int .i64 30)) rfl rfl)) (RV.d (RV.d trivial))
  · replace h := iteF hc16 h
    refine NWp.condF (t := y14) rfl hc16 ?_
    refine NWp.skip ?_
    refine NWp.opsJ ⟨tab [(2, .ptr 0 0 0), (5, .d (.str s5)), (7, .ptr 1 0 0)], stab [(0, .var [.d (.int .u16 0), .d (.int .u16 0), .d (.int .u16 0), .d (.int .u16 0), .d (.int .u16 0), .d (.int .u16 0), .d (.int .u16 0), .d (.int .u16 0), .d (.bool false), .d (.int .u16 0), .d (.int .u64 0)]), (1, .var [.d (.int .u16 0), .d (.int .u16 0), .d (.int .u16 0), .d (.int .u16 0), .d (.int .u16 0), .d (.int .u16 0), .d (.int .u16 0), .d (.int .u16 0), .d (.bool (y3 == 1)), .d (.int .u16 0), .d (.int .u64 0)])], 2⟩ ?_ ?_
    · refine step (v := .d (.int .u8 y3)) rfl ?_
      refine step (v := .d (.bool (y3 == 1))) rfl ?_
      refine step (v := .d (eapi_Frame (api_Frame.mk (A8.mk 0 0 0 0 0 0 0 0) (y3 == 1) 0 0))) (st_build (ds := [.int .u16 0, .int .u16 0, .int .u16 0, .int .u16 0, .int .u16 0, .int .u16 0, .int .u16 0, .int .u16 0, .bool (y3 == 1), .int .u16 0, .int .u64 0]) rfl) ?_
      refine step (v := .ptr 1 0 0) (σ' := (upd (stab [(0, .var [.d (.int .u16 0), .d (.int .u16 0), .d (.int .u16 0), .d (.int .u16 0), .d (.int .u16 0), .d (.int .u16 0), .d (.int .u16 0), .d (.int .u16 0), .d (.bool false), .d (.int .u16 0), .d (.int .u64 0)])]) 1 (some (.var [.d (.int .u16 0), .d (.int .u16 0), .d (.int .u16 0), .d (.int .u16 0), .d (.int .u16 0), .d (.int .u16 0), .d (.int .u16 0), .d (.int .u16 0), .d (.bool false), .d (.int .u16 0), .d (.int .u64 0)])))) (n' := 2) rfl ?_
      refine step (v := V.undef) (σ' := (upd (upd (stab [(0, .var [.d (.int .u16 0), .d (.int .u16 0), .d (.int .u16 0), .d (.int .u16 0), .d (.int .u16 0), .d (.int .u16 0), .d (.int .u16 0), .d (.int .u16 0), .d (.bool false), .d (.int .u16 0), .d (.int .u64 0)])]) 1 (some (.var [.d (.int .u16 0), .d (.int .u16 0), .d (.int .u16 0), .d (.int .u16 0), .d (.int .u16 0), .d (.int .u16 0), .d (.int .u16 0), .d (.int .u16 0), .d (.bool false), .d (.int .u16 0), .d (.int .u64 0)]))) 1 (some (.var [.d (.int .u16 0), .d (.int .u16 0), .d (.int .u16 0), .d (.int .u16 0), .d (.int .u16 0), .d (.int .u16 0), .d (.int .u16 0), .d (.int .u16 0), .d (.bool (y3 == 1)), .d (.int .u16 0), .d (.int .u64 0)])))) (n' := 2) rfl ?_
      exact RunOps.nil' (Norm.mk [0, 1] (by decide) (by decide) (by decide) ⟨.ptr 0 _ _ (show 0 < 2 by decide), .d _, .ptr 1 _ _ (show 1 < 2 by decide), trivial⟩ ⟨⟨show 0 < 2 by decide, _, rfl, .vars ⟨.d _, .d _, .d _, .d _, .d _, .d _, .d _, .d _, .d _, .d _, .d _, trivial⟩⟩, ⟨show 1 < 2 by decide, _, rfl, .vars ⟨.d _, .d _, .d _, .d _, .d _, .d _, .d _, .d _, .d _, .d _, .d _, trivial⟩⟩, trivial⟩)
    obtain ⟨s17, hs17, h⟩ := bindE h
    refine NWp.opsJ ⟨tab [(2, .ptr 0 0 0), (7, .ptr 1 0 0), (8, .ptr 2 0 0)], stab [(0, .var [.d (.int .u16 0), .d (.int .u16 0), .d (.int .u16 0), .d (.int .u16 0), .d (.int .u16 0), .d (.int .u16 0), .d (.int .u16 0), .d (.int .u16 0), .d (.bool false), .d (.int .u16 0), .d (.int .u64 0)]), (1, .var [.d (.int .u16 0), .d (.int .u16 0), .d (.int .u16 0), .d (.int .u16 0), .d (.int .u16 0), .d (.int .u16 0), .d (.int .u16 0), .d (.int .u16 0), .d (.bool (y3 == 1)), .d (.int .u16 0), .d (.int .u64 0)]), (2, .var [.d (.str s17)])], 3⟩ ?_ ?_
    · refine step (v := .d (.str s5)) rfl ?_
      refine step (v := .d (.str s17)) (st_sstr hs17 rfl ⟨_, rfl⟩ rfl) ?_
      refine step (v := .d (eframe_reader (frame_reader.mk s17))) (st_build (ds := [.str s17]) rfl) ?_
      refine step (v := .ptr 2 0 0) (σ' := (upd (stab [(0, .var [.d (.int .u16 0), .d (.int .u16 0), .d (.int .u16 0), .d (.int .u16 0), .d (.int .u16 0), .d (.int .u16 0), .d (.int .u16 0), .d (.int .u16 0), .d (.bool false), .d (.int .u16 0), .d (.int .u64 0)]), (1, .var [.d (.int .u16 0), .d (.int .u16 0), .d (.int .u16 0), .d (.int .u16 0), .d (.int .u16 0), .d (.int .u16 0), .d (.int .u16 0), .d (.int .u16 0), .d (.bool (y3 == 1)), .d (.int .u16 0), .d (.int .u64 0)])]) 2 (some (.var [.d (.str (⟨#[]⟩ : ByteArray))])))) (n' := 3) rfl ?_
      refine step (v := V.undef) (σ' := (upd (upd (stab [(0, .var [.d (.int .u16 0), .d (.int .u16 0), .d (.int .u16 0), .d (.int .u16 0), .d (.int .u16 0), .d (.int .u16 0), .d (.int .u16 0), .d (.int .u16 0), .d (.bool false), .d (.int .u16 0), .d (.int .u64 0)]), (1, .var [.d (.int .u16 0), .d (.int .u16 0), .d (.int .u16 0), .d (.int .u16 0), .d (.int .u16 0), .d (.int .u16 0), .d (.int .u16 0), .d (.int .u16 0), .d (.bool (y3 == 1)), .d (.int .u16 0), .d (.int .u64 0)])]) 2 (some (.var [.d (.str (⟨#[]⟩ : ByteArray))]))) 2 (some (.var [.d (.str s17)])))) (n' := 3) rfl ?_
      exact RunOps.nil' (Norm.mk [0, 1, 2] (by decide) (by decide) (by decide) ⟨.ptr 0 _ _ (show 0 < 3 by decide), .ptr 1 _ _ (show 1 < 3 by decide), .ptr 2 _ _ (show 2 < 3 by decide), trivial⟩ ⟨⟨show 0 < 3 by decide, _, rfl, .vars ⟨.d _, .d _, .d _, .d _, .d _, .d _, .d _, .d _, .d _, .d _, .d _, trivial⟩⟩, ⟨show 1 < 3 by decide, _, rfl, .vars ⟨.d _, .d _, .d _, .d _, .d _, .d _, .d _, .d _, .d _, .d _, .d _, trivial⟩⟩, ⟨show 2 < 3 by decide, _, rfl, .vars ⟨.d _, trivial⟩⟩, trivial⟩)
    refine NWp.seq ?_
    refine NWp.opsJ ⟨tab [(2, .ptr 0 0 0), (7, .ptr 1 0 0), (8, .ptr 2 0 0), (9, .d (.int .i64 2))], stab [(0, .var [.d (.int .u16 0), .d (.int .u16 0), .d (.int .u16 0), .d (.int .u16 0), .d (.int .u16 0), .d (.int .u16 0), .d (.int .u16 0), .d (.int .u16 0), .d (.bool false), .d (.int .u16 0), .d (.int .u64 0)]), (1, .var [.d (.int .u16 0), .d (.int .u16 0), .d (.int .u16 0), .d (.int .u16 0), .d (.int .u16 0), .d (.int .u16 0), .d (.int .u16 0), .d (.int .u16 0), .d (.bool (y3 == 1)), .d (.int .u16 0), .d (.int .u64 0)]), (2, .var [.d (.str s17)])], 3⟩ ?_ ?_
    · refine step (v := .d (.int .i64 2)) rfl ?_
      exact RunOps.nil' (Norm.mk [0, 1, 2] (by decide) (by decide) (by decide) ⟨.ptr 0 _ _ (show 0 < 3 by decide), .ptr 1 _ _ (show 1 < 3 by decide), .ptr 2 _ _ (show 2 < 3 by decide), .d _, trivial⟩ ⟨⟨show 0 < 3 by decide, _, rfl, .vars ⟨.d _, .d _, .d _, .d _, .d _, .d _, .d _, .d _, .d _, .d _, .d _, trivial⟩⟩, ⟨show 1 < 3 by decide, _, rfl, .vars ⟨.d _, .d _, .d _, .d _, .d _, .d _, .d _, .d _, .d _, .d _, .d _, trivial⟩⟩, ⟨show 2 < 3 by decide, _, rfl, .vars ⟨.d _, trivial⟩⟩, trivial⟩)
    obtain ⟨q47, hl, h⟩ := bindE h
    obtain ⟨z29, z30⟩ := q47
    refine NWp.norm (s0 := ⟨tab [(2, .ptr 0 0 0), (7, .ptr 1 0 0), (8, .ptr 2 0 0), (9, .d (.int .i64 2))], stab [(0, .var [.d (.int .u16 0), .d (.int .u16 0), .d (.int .u16 0), .d (.int .u16 0), .d (.int .u16 0), .d (.int .u16 0), .d (.int .u16 0), .d (.int .u16 0), .d (.bool false), .d (.int .u16 0), .d (.int .u64 0)]), (1, .var [.d (.int .u16 ((api_Frame.mk (A8.mk 0 0 0 0 0 0 0 0) (y3 == 1) 0 0).P.a0)), .d (.int .u16 ((api_Frame.mk (A8.mk 0 0 0 0 0 0 0 0) (y3 == 1) 0 0).P.a1)), .d (.int .u16 ((api_Frame.mk (A8.mk 0 0 0 0 0 0 0 0) (y3 == 1) 0 0).P.a2)), .d (.int .u16 ((api_Frame.mk (A8.mk 0 0 0 0 0 0 0 0) (y3 == 1) 0 0).P.a3)), .d (.int .u16 ((api_Frame.mk (A8.mk 0 0 0 0 0 0 0 0) (y3 == 1) 0 0).P.a4)), .d (.int .u16 ((api_Frame.mk (A8.mk 0 0 0 0 0 0 0 0) (y3 == 1) 0 0).P.a5)), .d (.int .u16 ((api_Frame.mk (A8.mk 0 0 0 0 0 0 0 0) (y3 == 1) 0 0).P.a6)), .d (.int .u16 ((api_Frame.mk (A8.mk 0 0 0 0 0 0 0 0) (y3 == 1) 0 0).P.a7)), .d (.bool ((api_Frame.mk (A8.mk 0 0 0 0 0 0 0 0) (y3 == 1) 0 0).Tagged)), .d (.int .u16 ((api_Frame.mk (A8.mk 0 0 0 0 0 0 0 0) (y3 == 1) 0 0).Tag)), .d (.int .u64 ((api_Frame.mk (A8.mk 0 0 0 0 0 0 0 0) (y3 == 1) 0 0).Digest))]), (2, .var [.d (.str ((frame_reader.mk s17).s))])], 3⟩) (Norm.mk [0, 1, 2] (by decide) (by decide) (by decide) ⟨.ptr 0 _ _ (show 0 < 3 by decide), .ptr 1 _ _ (show 1 < 3 by decide), .ptr 2 _ _ (show 2 < 3 by decide), .d _, trivial⟩ ⟨⟨show 0 < 3 by decide, _, rfl, .vars ⟨.d _, .d _, .d _, .d _, .d _, .d _, .d _, .d _, .d _, .d _, .d _, trivial⟩⟩, ⟨show 1 < 3 by decide, _, rfl, .vars ⟨.d _, .d _, .d _, .d _, .d _, .d _, .d _, .d _, .d _, .d _, .d _, trivial⟩⟩, ⟨show 2 < 3 by decide, _, rfl, .vars ⟨.d _, trivial⟩⟩, trivial⟩) ?_
    refine NWp.block ?_
    refine loop_forO (cntU 8) (fun (i18 : Int) (qq : (api_Frame × frame_reader)) => ⟨tab [(2, .ptr 0 0 0), (7, .ptr 1 0 0), (8, .ptr 2 0 0), (9, .d (.int .i64 i18))], stab [(0, .var [.d (.int .u16 0), .d (.int .u16 0), .d (.int .u16 0), .d (.int .u16 0), .d (.int .u16 0), .d (.int .u16 0), .d (.int .u16 0), .d (.int .u16 0), .d (.bool false), .d (.int .u16 0), .d (.int .u64 0)]), (1, .var [.d (.int .u16 qq.1.P.a0), .d (.int .u16 qq.1.P.a1), .d (.int .u16 qq.1.P.a2), .d (.int .u16 qq.1.P.a3), .d (.int .u16 qq.1.P.a4), .d (.int .u16 qq.1.P.a5), .d (.int .u16 qq.1.P.a6), .d (.int .u16 qq.1.P.a7), .d (.bool qq.1.Tagged), .d (.int .u16 qq.1.Tag), .d (.int .u64 qq.1.Digest)]), (2, .var [.d (.str qq.2.s)])], 3⟩) 1 (fun (qq : (api_Frame × frame_reader)) => ⟨tab [(2, .ptr 0 0 0), (7, .ptr 1 0 0), (8, .ptr 2 0 0)], stab [(0, .var [.d (.int .u16 0), .d (.int .u16 0), .d (.int .u16 0), .d (.int .u16 0), .d (.int .u16 0), .d (.int .u16 0), .d (.int .u16 0), .d (.int .u16 0), .d (.bool false), .d (.int .u16 0), .d (.int .u64 0)]), (1, .var [.d (.int .u16 qq.1.P.a0), .d (.int .u16 qq.1.P.a1), .d (.int .u16 qq.1.P.a2), .d (.int .u16 qq.1.P.a3), .d (.int .u16 qq.1.P.a4), .d (.int .u16 qq.1.P.a5), .d (.int .u16 qq.1.P.a6), .d (.int .u16 qq.1.P.a7), .d (.bool qq.1.Tagged), .d (.int .u16 qq.1.Tag), .d (.int .u64 qq.1.Digest)]), (2, .var [.d (.str qq.2.s)])], 3⟩) Low low_step hl (by unfold Low; omega) ?_ ?_ ?_
    · rintro i18 ⟨y19, y20⟩ xr25 hinv23 hgo22 h
      show NWp _ _ _ _ _ ⟨tab [(2, .ptr 0 0 0), (7, .ptr 1 0 0), (8, .ptr 2 0 0), (9, .d (.int .i64 i18))], stab [(0, .var [.d (.int .u16 0), .d (.int .u16 0), .d (.int .u16 0), .d (.int .u16 0), .d (.int .u16 0), .d (.int .u16 0), .d (.int .u16 0), .d (.int .u16 0), .d (.bool false), .d (.int .u16 0), .d (.int .u64 0)]), (1, .var [.d (.int .u16 y19.P.a0), .d (.int .u16 y19.P.a1), .d (.int .u16 y19.P.a2), .d (.int .u16 y19.P.a3), .d (.int .u16 y19.P.a4), .d (.int .u16 y19.P.a5), .d (.int .u16 y19.P.a6), .d (.int .u16 y19.P.a7), .d (.bool y19.Tagged), .d (.int .u16 y19.Tag), .d (.int .u64 y19.Digest)]), (2, .var [.d (.str y20.s)])], 3⟩
      have hc24 : decide (i18 < 8) = true := decide_eq_true hgo22
      refine NWp.seq ?_
      refine NWp.opsJ ⟨tab [(2, .ptr 0 0 0), (7, .ptr 1 0 0), (8, .ptr 2 0 0), (9, .d (.int .i64 i18)), (52, .d (.bool (decide (i18 < 8))))], stab [(0, .var [.d (.int .u16 0), .d (.int .u16 0), .d (.int .u16 0), .d (.int .u16 0), .d (.int .u16 0), .d (.int .u16 0), .d (.int .u16 0), .d (.int .u16 0), .d (.bool false), .d (.int .u16 0), .d (.int .u64 0)]), (1, .var [.d (.int .u16 y19.P.a0), .d (.int .u16 y19.P.a1), .d (.int .u16 y19.P.a2), .d (.int .u16 y19.P.a3), .d (.int .u16 y19.P.a4), .d (.int .u16 y19.P.a5), .d (.int .u16 y19.P.a6), .d (.int .u16 y19.P.a7), .d (.bool y19.Tagged), .d (.int .u16 y19.Tag), .d (.int .u64 y19.Digest)]), (2, .var [.d (.str y20.s)])], 3⟩ ?_ ?_
      · refine step (v := .d (.int .i64 i18)) rfl ?_
        refine step (v := .d (.bool (decide (i18 < 8)))) rfl ?_
        exact RunOps.nil' (Norm.mk [0, 1, 2] (by decide) (by decide) (by decide) ⟨.ptr 0 _ _ (show 0 < 3 by decide), .ptr 1 _ _ (show 1 < 3 by decide), .ptr 2 _ _ (show 2 < 3 by decide), .d _, .d _, trivial⟩ ⟨⟨show 0 < 3 by decide, _, rfl, .vars ⟨.d _, .d _, .d _, .d _, .d _, .d _, .d _, .d _, .d _, .d _, .d _, trivial⟩⟩, ⟨show 1 < 3 by decide, _, rfl, .vars ⟨.d _, .d _, .d _, .d _, .d _, .d _, .d _, .d _, .d _, .d _, .d _, trivial⟩⟩, ⟨show 2 < 3 by decide, _, rfl, .vars ⟨.d _, trivial⟩⟩, trivial⟩)
      refine NWp.condT (t := decide (i18 < 8)) rfl hc24 ?_
      refine NWp.skip ?_
      refine NWp.seq ?_
      refine NWp.block ?_
      obtain ⟨r26, hr26, h⟩ := bindE h
      obtain ⟨x27, hx27, h⟩ := bindE h
      obtain ⟨x28, hx28, h⟩ := bindE h
      refine NWp.opsE ⟨tab [(2, .ptr 0 0 0), (7, .ptr 1 0 0), (8, .ptr 2 0 0), (9, .d (.int .i64 i18))], stab [(0, .var [.d (.int .u16 0), .d (.int .u16 0), .d (.int .u16 0), .d (.int .u16 0), .d (.int .u16 0), .d (.int .u16 0), .d (.int .u16 0), .d (.int .u16 0), .d (.bool false), .d (.int .u16 0), .d (.int .u64 0)]), (1, .var [.d (.int .u16 x28.a0), .d (.int .u16 x28.a1), .d (.int .u16 x28.a2), .d (.int .u16 x28.a3), .d (.int .u16 x28.a4), .d (.int .u16 x28.a5), .d (.int .u16 x28.a6), .d (.int .u16 x28.a7), .d (.bool y19.Tagged), .d (.int .u16 y19.Tag), .d (.int .u64 y19.Digest)]), (2, .var [.d (.str r26.2.s)])], 3⟩ ?_ ?_
      · refine step (v := .d (.int .i64 i18)) rfl ?_
        refine stepW (v := .d (.int .u16 r26.1)) (σ' := (upd (upd (stab [(0, .var [.d (.int .u16 0), .d (.int .u16 0), .d (.int .u16 0), .d (.int .u16 0), .d (.int .u16 0), .d (.int .u16 0), .d (.int .u16 0), .d (.int .u16 0), .d (.bool false), .d (.int .u16 0), .d (.int .u64 0)]), (1, .var [.d (.int .u16 y19.P.a0), .d (.int .u16 y19.P.a1), .d (.int .u16 y19.P.a2), .d (.int .u16 y19.P.a3), .d (.int .u16 y19.P.a4), .d (.int .u16 y19.P.a5), .d (.int .u16 y19.P.a6), .d (.int .u16 y19.P.a7), .d (.bool y19.Tagged), .d (.int .u16 y19.Tag), .d (.int .u64 y19.Digest)]), (2, .var [.d (.str y20.s)])]) 2 none) 2 (some (.var [.d (.str r26.2.s)])))) (n' := 3) (SCall.lift [2] (c_frame_reader_two hr26) (show 1 ≤ 1 by decide) (by decide) (show ∀ i ∈ [2], i < 3 by decide) (dom_c (show 0 < 1 by decide) dom_n) (VNs.c (.ptr 0 _ _ (show 0 < 1 by decide)) VNs.nil0) (SN.c (show 0 < 1 by decide) rfl (.vars (VNs.c (.d _) VNs.nil0)) SN.nil0)) (show 3 ≤ 3 by decide) ?_
        refine step (v := .ptr 1 0 0) rfl ?_
        refine step (v := .ptr 1 0 (0 + i18.toNat * 1)) (st_iaddrAP (xs := y19.P.l) hx27 rfl rfl rfl) ?_
        refine step (v := V.undef) (σ' := (upd (upd (upd (stab [(0, .var [.d (.int .u16 0), .d (.int .u16 0), .d (.int .u16 0), .d (.int .u16 0), .d (.int .u16 0), .d (.int .u16 0), .d (.int .u16 0), .d (.int .u16 0), .d (.bool false), .d (.int .u16 0), .d (.int .u64 0)]), (1, .var [.d (.int .u16 y19.P.a0), .d (.int .u16 y19.P.a1), .d (.int .u16 y19.P.a2), .d (.int .u16 y19.P.a3), .d (.int .u16 y19.P.a4), .d (.int .u16 y19.P.a5), .d (.int .u16 y19.P.a6), .d (.int .u16 y19.P.a7), .d (.bool y19.Tagged), .d (.int .u16 y19.Tag), .d (.int .u64 y19.Digest)]), (2, .var [.d (.str y20.s)])]) 2 none) 2 (some (.var [.d (.str r26.2.s)]))) 1 (some (.var [.d (.int .u16 x28.a0), .d (.int .u16 x28.a1), .d (.int .u16 x28.a2), .d (.int .u16 x28.a3), .d (.int .u16 x28.a4), .d (.int .u16 x28.a5), .d (.int .u16 x28.a6), .d (.int .u16 x28.a7), .d (.bool y19.Tagged), .d (.int .u16 y19.Tag), .d (.int .u64 y19.Digest)])))) (n' := 3) (st_storeA (e := (D.int .u16)) (xs := y19.P.l) (xs' := x28.l) (pre := []) (post := [.d (.bool y19.Tagged), .d (.int .u16 y19.Tag), .d (.int .u64 y19.Digest)]) (A8.put_l hx28) rfl rfl rfl rfl rfl rfl) ?_
        exact RunOps.nil' (Norm.mk [0, 1, 2] (by decide) (by decide) (by decide) ⟨.ptr 0 _ _ (show 0 < 3 by decide), .ptr 1 _ _ (show 1 < 3 by decide), .ptr 2 _ _ (show 2 < 3 by decide), .d _, trivial⟩ ⟨⟨show 0 < 3 by decide, _, rfl, .vars ⟨.d _, .d _, .d _, .d _, .d _, .d _, .d _, .d _, .d _, .d _, .d _, trivial⟩⟩, ⟨show 1 < 3 by decide, _, rfl, .vars ⟨.d _, .d _, .d _, .d _, .d _, .d _, .d _, .d _, .d _, .d _, .d _, trivial⟩⟩, ⟨show 2 < 3 by decide, _, rfl, .vars ⟨.d _, trivial⟩⟩, trivial⟩)
      have hh := Option.some.inj h
      subst hh
      refine NWp.opsE ⟨tab [(2, .ptr 0 0 0), (7, .ptr 1 0 0), (8, .ptr 2 0 0), (9, .d (.int .i64 (i18 + 1)))], stab [(0, .var [.d (.int .u16 0), .d (.int .u16 0), .d (.int .u16 0), .d (.int .u16 0), .d (.int .u16 0), .d (.int .u16 0), .d (.int .u16 0), .d (.int .u16 0), .d (.bool false), .d (.int .u16 0), .d (.int .u64 0)]), (1, .var [.d (.int .u16 ((api_Frame.mk x28 y19.Tagged y19.Tag y19.Digest).P.a0)), .d (.int .u16 ((api_Frame.mk x28 y19.Tagged y19.Tag y19.Digest).P.a1)), .d (.int .u16 ((api_Frame.mk x28 y19.Tagged y19.Tag y19.Digest).P.a2)), .d (.int .u16 ((api_Frame.mk x28 y19.Tagged y19.Tag y19.Digest).P.a3)), .d (.int .u16 ((api_Frame.mk x28 y19.Tagged y19.Tag y19.Digest).P.a4)), .d (.int .u16 ((api_Frame.mk x28 y19.Tagged y19.Tag y19.Digest).P.a5)), .d (.int .u16 ((api_Frame.mk x28 y19.Tagged y19.Tag y19.Digest).P.a6)), .d (.int .u16 ((api_Frame.mk x28 y19.Tagged y19.Tag y19.Digest).P.a7)), .d (.bool ((api_Frame.mk x28 y19.Tagged y19.Tag y19.Digest).Tagged)), .d (.int .u16 ((api_Frame.mk x28 y19.Tagged y19.Tag y19.Digest).Tag)), .d (.int .u64 ((api_Frame.mk x28 y19.Tagged y19.Tag y19.Digest).Digest))]), (2, .var [.d (.str r26.2.s)])], 3⟩ ?_ ?_
      · refine step (v := .d (.int .i64 i18)) rfl ?_
        refine step (v := .d (.int .i64 (i18 + 1))) (st_inc (inc_ok hinv23 hgo22 (by decide)) rfl rfl) ?_
        refine step (v := .d (.int .i64 (i18 + 1))) rfl ?_
        exact RunOps.nil' (Norm.mk [0, 1, 2] (by decide) (by decide) (by decide) ⟨.ptr 0 _ _ (show 0 < 3 by decide), .ptr 1 _ _ (show 1 < 3 by decide), .ptr 2 _ _ (show 2 < 3 by decide), .d _, trivial⟩ ⟨⟨show 0 < 3 by decide, _, rfl, .vars ⟨.d _, .d _, .d _, .d _, .d _, .d _, .d _, .d _, .d _, .d _, .d _, trivial⟩⟩, ⟨show 1 < 3 by decide, _, rfl, .vars ⟨.d _, .d _, .d _, .d _, .d _, .d _, .d _, .d _, .d _, .d _, .d _, trivial⟩⟩, ⟨show 2 < 3 by decide, _, rfl, .vars ⟨.d _, trivial⟩⟩, trivial⟩)
      exact And.intro rfl rfl
    · rintro i18 ⟨y19, y20⟩ hinv23 hgo22
      show NWp _ _ _ _ _ ⟨tab [(2, .ptr 0 0 0), (7, .ptr 1 0 0), (8, .ptr 2 0 0), (9, .d (.int .i64 i18))], stab [(0, .var [.d (.int .u16 0), .d (.int .u16 0), .d (.int .u16 0), .d (.int .u16 0), .d (.int .u16 0), .d (.int .u16 0), .d (.int .u16 0), .d (.int .u16 0), .d (.bool false), .d (.int .u16 0), .d (.int .u64 0)]), (1, .var [.d (.int .u16 y19.P.a0), .d (.int .u16 y19.P.a1), .d (.int .u16 y19.P.a2), .d (.int .u16 y19.P.a3), .d (.int .u16 y19.P.a4), .d (.int .u16 y19.P.a5), .d (.int .u16 y19.P.a6), .d (.int .u16 y19.P.a7), .d (.bool y19.Tagged), .d (.int .u16 y19.Tag), .d (.int .u64 y19.Digest)]), (2, .var [.d (.str y20.s)])], 3⟩
      have hc24 : ¬ (decide (i18 < 8) = true) := fun hq => hgo22 (of_decide_eq_true hq)
      refine NWp.seq ?_
      refine NWp.opsJ ⟨tab [(2, .ptr 0 0 0), (7, .ptr 1 0 0), (8, .ptr 2 0 0), (9, .d (.int .i64 i18)), (52, .d (.bool (decide (i18 < 8))))], stab [(0, .var [.d (.int .u16 0), .d (.int .u16 0), .d (.int .u16 0), .d (.int .u16 0), .d (.int .u16 0), .d (.int .u16 0), .d (.int .u16 0), .d (.int .u16 0), .d (.bool false), .d (.int .u16 0), .d (.int .u64 0)]), (1, .var [.d (.int .u16 y19.P.a0), .d (.int .u16 y19.P.a1), .d (.int .u16 y19.P.a2), .d (.int .u16 y19.P.a3), .d (.int .u16 y19.P.a4), .d (.int .u16 y19.P.a5), .d (.int .u16 y19.P.a6), .d (.int .u16 y19.P.a7), .d (.bool y19.Tagged), .d (.int .u16 y19.Tag), .d (.int .u64 y19.Digest)]), (2, .var [.d (.str y20.s)])], 3⟩ ?_ ?_
      · refine step (v := .d (.int .i64 i18)) rfl ?_
        refine step (v := .d (.bool (decide (i18 < 8)))) rfl ?_
        exact RunOps.nil' (Norm.mk [0, 1, 2] (by decide) (by decide) (by decide) ⟨.ptr 0 _ _ (show 0 < 3 by decide), .ptr 1 _ _ (show 1 < 3 by decide), .ptr 2 _ _ (show 2 < 3 by decide), .d _, .d _, trivial⟩ ⟨⟨show 0 < 3 by decide, _, rfl, .vars ⟨.d _, .d _, .d _, .d _, .d _, .d _, .d _, .d _, .d _, .d _, .d _, trivial⟩⟩, ⟨show 1 < 3 by decide, _, rfl, .vars ⟨.d _, .d _, .d _, .d _, .d _, .d _, .d _, .d _, .d _, .d _, .d _, trivial⟩⟩, ⟨show 2 < 3 by decide, _, rfl, .vars ⟨.d _, trivial⟩⟩, trivial⟩)
      refine NWp.condF (t := decide (i18 < 8)) rfl hc24 ?_
      refine NWp.norm (s0 := ⟨tab [(2, .ptr 0 0 0), (7, .ptr 1 0 0), (8, .ptr 2 0 0)], stab [(0, .var [.d (.int .u16 0), .d (.int .u16 0), .d (.int .u16 0), .d (.int .u16 0), .d (.int .u16 0), .d (.int .u16 0), .d (.int .u16 0), .d (.int .u16 0), .d (.bool false), .d (.int .u16 0), .d (.int .u64 0)]), (1, .var [.d (.int .u16 y19.P.a0), .d (.int .u16 y19.P.a1), .d (.int .u16 y19.P.a2), .d (.int .u16 y19.P.a3), .d (.int .u16 y19.P.a4), .d (.int .u16 y19.P.a5), .d (.int .u16 y19.P.a6), .d (.int .u16 y19.P.a7), .d (.bool y19.Tagged), .d (.int .u16 y19.Tag), .d (.int .u64 y19.Digest)]), (2, .var [.d (.str y20.s)])], 3⟩) (Norm.mk [0, 1, 2] (by decide) (by decide) (by decide) ⟨.ptr 0 _ _ (show 0 < 3 by decide), .ptr 1 _ _ (show 1 < 3 by decide), .ptr 2 _ _ (show 2 < 3 by decide), trivial⟩ ⟨⟨show 0 < 3 by decide, _, rfl, .vars ⟨.d _, .d _, .d _, .d _, .d _, .d _, .d _, .d _, .d _, .d _, .d _, trivial⟩⟩, ⟨show 1 < 3 by decide, _, rfl, .vars ⟨.d _, .d _, .d _, .d _, .d _, .d _, .d _, .d _, .d _, .d _, .d _, trivial⟩⟩, ⟨show 2 < 3 by decide, _, rfl, .vars ⟨.d _, trivial⟩⟩, trivial⟩) ?_
      refine NWp.exit ?_
      exact And.intro rfl rfl
    obtain ⟨y45, hv, h⟩ := bindE h
    refine NWp.seqN ⟨tab [(2, .ptr 0 0 0), (7, .ptr 1 0 0)], stab [(0, .var [.d (.int .u16 0), .d (.int .u16 0), .d (.int .u16 0), .d (.int .u16 0), .d (.int .u16 0), .d (.int .u16 0), .d (.int .u16 0), .d (.int .u16 0), .d (.bool false), .d (.int .u16 0), .d (.int .u64 0)]), (1, .var [.d (.int .u16 y45.P.a0), .d (.int .u16 y45.P.a1), .d (.int .u16 y45.P.a2), .d (.int .u16 y45.P.a3), .d (.int .u16 y45.P.a4), .d (.int .u16 y45.P.a5), .d (.int .u16 y45.P.a6), .d (.int .u16 y45.P.a7), .d (.bool y45.Tagged), .d (.int .u16 y45.Tag), .d (.int .u64 y45.Digest)])], 2⟩ ?_ ?_
    · replace h := hv
      refine NWp.opsJ ⟨tab [(2, .ptr 0 0 0), (7, .ptr 1 0 0), (8, .ptr 2 0 0), (60, .d (.bool z29.Tagged))], stab [(0, .var [.d (.int .u16 0), .d (.int .u16 0), .d (.int .u16 0), .d (.int .u16 0), .d (.int .u16 0), .d (.int .u16 0), .d (.int .u16 0), .d (.int .u16 0), .d (.bool false), .d (.int .u16 0), .d (.int .u64 0)]), (1, .var [.d (.int .u16 z29.P.a0), .d (.int .u16 z29.P.a1), .d (.int .u16 z29.P.a2), .d (.int .u16 z29.P.a3), .d (.int .u16 z29.P.a4), .d (.int .u16 z29.P.a5), .d (.int .u16 z29.P.a6), .d (.int .u16 z29.P.a7), .d (.bool z29.Tagged), .d (.int .u16 z29.Tag), .d (.int .u64 z29.Digest)]), (2, .var [.d (.str z30.s)])], 3⟩ ?_ ?_
      · refine step (v := .ptr 1 0 8) rfl ?_
        refine step (v := .d (.bool z29.Tagged)) rfl ?_
        exact RunOps.nil' (Norm.mk [0, 1, 2] (by decide) (by decide) (by decide) ⟨.ptr 0 _ _ (show 0 < 3 by decide), .ptr 1 _ _ (show 1 < 3 by decide), .ptr 2 _ _ (show 2 < 3 by decide), .d _, trivial⟩ ⟨⟨show 0 < 3 by decide, _, rfl, .vars ⟨.d _, .d _, .d _, .d _, .d _, .d _, .d _, .d _, .d _, .d _, .d _, trivial⟩⟩, ⟨show 1 < 3 by decide, _, rfl, .vars ⟨.d _, .d _, .d _, .d _, .d _, .d _, .d _, .d _, .d _, .d _, .d _, trivial⟩⟩, ⟨show 2 < 3 by decide, _, rfl, .vars ⟨.d _, trivial⟩⟩, trivial⟩)
      by_cases hc31 : z29.Tagged = true
      · replace h := iteT hc31 h
        refine NWp.condT (t := z29.Tagged) rfl hc31 ?_
        obtain ⟨r32, hr32, h⟩ := bindE h
        refine NWp.opsJ ⟨tab [(2, .ptr 0 0 0), (7, .ptr 1 0 0), (8, .ptr 2 0 0)], stab [(0, .var [.d (.int .u16 0), .d (.int .u16 0), .d (.int .u16 0), .d (.int .u16 0), .d (.int .u16 0), .d (.int .u16 0), .d (.int .u16 0), .d (.int .u16 0), .d (.bool false), .d (.int .u16 0), .d (.int .u64 0)]), (1, .var [.d (.int .u16 z29.P.a0), .d (.int .u16 z29.P.a1), .d (.int .u16 z29.P.a2), .d (.int .u16 z29.P.a3), .d (.int .u16 z29.P.a4), .d (.int .u16 z29.P.a5), .d (.int .u16 z29.P.a6), .d (.int .u16 z29.P.a7), .d (.bool z29.Tagged), .d (.int .u16 r32.1), .d (.int .u64 z29.Digest)]), (2, .var [.d (.str r32.2.s)])], 3⟩ ?_ ?_
        · refine stepW (v := .d (.int .u16 r32.1)) (σ' := (upd (upd (stab [(0, .var [.d (.int .u16 0), .d (.int .u16 0), .d (.int .u16 0), .d (.int .u16 0), .d (.int .u16 0), .d (.int .u16 0), .d (.int .u16 0), .d (.int .u16 0), .d (.bool false), .d (.int .u16 0), .d (.int .u64 0)]), (1, .var [.d (.int .u16 z29.P.a0), .d (.int .u16 z29.P.a1), .d (.int .u16 z29.P.a2), .d (.int .u16 z29.P.a3), .d (.int .u16 z29.P.a4), .d (.int .u16 z29.P.a5), .d (.int .u16 z29.P.a6), .d (.int .u16 z29.P.a7), .d (.bool z29.Tagged), .d (.int .u16 z29.Tag), .d (.int .u64 z29.Digest)]), (2, .var [.d (.str z30.s)])]) 2 none) 2 (some (.var [.d (.str r32.2.s)])))) (n' := 3) (SCall.lift [2] (c_frame_reader_two hr32) (show 1 ≤ 1 by decide) (by decide) (show ∀ i ∈ [2], i < 3 by decide) (dom_c (show 0 < 1 by decide) dom_n) (VNs.c (.ptr 0 _ _ (show 0 < 1 by decide)) VNs.nil0) (SN.c (show 0 < 1 by decide) rfl (.vars (VNs.c (.d _) VNs.nil0)) SN.nil0)) (show 3 ≤ 3 by decide) ?_
          refine step (v := .ptr 1 0 9) rfl ?_
          refine step (v := V.undef) (σ' := (upd (upd (upd (stab [(0, .var [.d (.int .u16 0), .d (.int .u16 0), .d (.int .u16 0), .d (.int .u16 0), .d (.int .u16 0), .d (.int .u16 0), .d (.int .u16 0), .d (.int .u16 0), .d (.bool false), .d (.int .u16 0), .d (.int .u64 0)]), (1, .var [.d (.int .u16 z29.P.a0), .d (.int .u16 z29.P.a1), .d (.int .u16 z29.P.a2), .d (.int .u16 z29.P.a3), .d (.int .u16 z29.P.a4), .d (.int .u16 z29.P.a5), .d (.int .u16 z29.P.a6), .d (.int .u16 z29.P.a7), .d (.bool z29.Tagged), .d (.int .u16 z29.Tag), .d (.int .u64 z29.Digest)]), (2, .var [.d (.str z30.s)])]) 2 none) 2 (some (.var [.d (.str r32.2.s)]))) 1 (some (.var [.d (.int .u16 z29.P.a0), .d (.int .u16 z29.P.a1), .d (.int .u16 z29.P.a2), .d (.int .u16 z29.P.a3), .d (.int .u16 z29.P.a4), .d (.int .u16 z29.P.a5), .d (.int .u16 z29.P.a6), .d (.int .u16 z29.P.a7), .d (.bool z29.Tagged), .d (.int .u16 r32.1), .d (.int .u64 z29.Digest)])))) (n' := 3) rfl ?_
          exact RunOps.nil' (Norm.mk [0, 1, 2] (by decide) (by decide) (by decide) ⟨.ptr 0 _ _ (show 0 < 3 by decide), .ptr 1 _ _ (show 1 < 3 by decide), .ptr 2 _ _ (show 2 < 3 by decide), trivial⟩ ⟨⟨show 0 < 3 by decide, _, rfl, .vars ⟨.d _, .d _, .d _, .d _, .d _, .d _, .d _, .d _, .d _, .d _, .d _, trivial⟩⟩, ⟨show 1 < 3 by decide, _, rfl, .vars ⟨.d _, .d _, .d _, .d _, .d _, .d _, .d _, .d _, .d _, .d _, .d _, trivial⟩⟩, ⟨show 2 < 3 by decide, _, rfl, .vars ⟨.d _, trivial⟩⟩, trivial⟩)
        refine NWp.opsJ ⟨tab [(2, .ptr 0 0 0), (7, .ptr 1 0 0), (8, .ptr 2 0 0), (63, .d (.int .i64 0))], stab [(0, .var [.d (.int .u16 0), .d (.int .u16 0), .d (.int .u16 0), .d (.int .u16 0), .d (.int .u16 0), .d (.int .u16 0), .d (.int .u16 0), .d (.int .u16 0), .d (.bool false), .d (.int .u16 0), .d (.int .u64 0)]), (1, .var [.d (.int .u16 z29.P.a0), .d (.int .u16 z29.P.a1), .d (.int .u16 z29.P.a2), .d (.int .u16 z29.P.a3), .d (.int .u16 z29.P.a4), .d (.int .u16 z29.P.a5), .d (.int .u16 z29.P.a6), .d (.int .u16 z29.P.a7), .d (.bool z29.Tagged), .d (.int .u16 r32.1), .d (.int .u64 z29.Digest)]), (2, .var [.d (.str r32.2.s)])], 3⟩ ?_ ?_
        · refine step (v := .d (.int .i64 0)) rfl ?_
          exact RunOps.nil' (Norm.mk [0, 1, 2] (by decide) (by decide) (by decide) ⟨.ptr 0 _ _ (show 0 < 3 by decide), .ptr 1 _ _ (show 1 < 3 by decide), .ptr 2 _ _ (show 2 < 3 by decide), .d _, trivial⟩ ⟨⟨show 0 < 3 by decide, _, rfl, .vars ⟨.d _, .d _, .d _, .d _, .d _, .d _, .d _, .d _, .d _, .d _, .d _, trivial⟩⟩, ⟨show 1 < 3 by decide, _, rfl, .vars ⟨.d _, .d _, .d _, .d _, .d _, .d _, .d _, .d _, .d _, .d _, .d _, trivial⟩⟩, ⟨show 2 < 3 by decide, _, rfl, .vars ⟨.d _, trivial⟩⟩, trivial⟩)
        obtain ⟨q44, hl, h⟩ := bindE h
        obtain ⟨z42, z43⟩ := q44
        refine NWp.norm (s0 := ⟨tab [(2, .ptr 0 0 0), (7, .ptr 1 0 0), (8, .ptr 2 0 0), (63, .d (.int .i64 0))], stab [(0, .var [.d (.int .u16 0), .d (.int .u16 0), .d (.int .u16 0), .d (.int .u16 0), .d (.int .u16 0), .d (.int .u16 0), .d (.int .u16 0), .d (.int .u16 0), .d (.bool false), .d (.int .u16 0), .d (.int .u64 0)]), (1, .var [.d (.int .u16 ((api_Frame.mk z29.P z29.Tagged r32.1 z29.Digest).P.a0)), .d (.int .u16 ((api_Frame.mk z29.P z29.Tagged r32.1 z29.Digest).P.a1)), .d (.int .u16 ((api_Frame.mk z29.P z29.Tagged r32.1 z29.Digest).P.a2)), .d (.int .u16 ((api_Frame.mk z29.P z29.Tagged r32.1 z29.Digest).P.a3)), .d (.int .u16 ((api_Frame.mk z29.P z29.Tagged r32.1 z29.Digest).P.a4)), .d (.int .u16 ((api_Frame.mk z29.P z29.Tagged r32.1 z29.Digest).P.a5)), .d (.int .u16 ((api_Frame.mk z29.P z29.Tagged r32.1 z29.Digest).P.a6)), .d (.int .u16 ((api_Frame.mk z29.P z29.Tagged r32.1 z29.Digest).P.a7)), .d (.bool ((api_Frame.mk z29.P z29.Tagged r32.1 z29.Digest).Tagged)), .d (.int .u16 ((api_Frame.mk z29.P z29.Tagged r32.1 z29.Digest).Tag)), .d (.int .u64 ((api_Frame.mk z29.P z29.Tagged r32.1 z29.Digest).Digest))]), (2, .var [.d (.str r32.2.s)])], 3⟩) (Norm.mk [0, 1, 2] (by decide) (by decide) (by decide) ⟨.ptr 0 _ _ (show 0 < 3 by decide), .ptr 1 _ _ (show 1 < 3 by decide), .ptr 2 _ _ (show 2 < 3 by decide), .d _, trivial⟩ ⟨⟨show 0 < 3 by decide, _, rfl, .vars ⟨.d _, .d _, .d _, .d _, .d _, .d _, .d _, .d _, .d _, .d _, .d _, trivial⟩⟩, ⟨show 1 < 3 by decide, _, rfl, .vars ⟨.d _, .d _, .d _, .d _, .d _, .d _, .d _, .d _, .d _, .d _, .d _, trivial⟩⟩, ⟨show 2 < 3 by decide, _, rfl, .vars ⟨.d _, trivial⟩⟩, trivial⟩) ?_
        refine NWp.block ?_
        refine loop_forO (cntU 4) (fun (i33 : Int) (qq : (api_Frame × frame_reader)) => ⟨tab [(2, .ptr 0 0 0), (7, .ptr 1 0 0), (8, .ptr 2 0 0), (63, .d (.int .i64 i33))], stab [(0, .var [.d (.int .u16 0), .d (.int .u16 0), .d (.int .u16 0), .d (.int .u16 0), .d (.int .u16 0), .d (.int .u16 0), .d (.int .u16 0), .d (.int .u16 0), .d (.bool false), .d (.int .u16 0), .d (.int .u64 0)]), (1, .var [.d (.int .u16 qq.1.P.a0), .d (.int .u16 qq.1.P.a1), .d (.int .u16 qq.1.P.a2), .d (.int .u16 qq.1.P.a3), .d (.int .u16 qq.1.P.a4), .d (.int .u16 qq.1.P.a5), .d (.int .u16 qq.1.P.a6), .d (.int .u16 qq.1.P.a7), .d (.bool qq.1.Tagged), .d (.int .u16 qq.1.Tag), .d (.int .u64 qq.1.Digest)]), (2, .var [.d (.str qq.2.s)])], 3⟩) 3 (fun (qq : (api_Frame × frame_reader)) => ⟨tab [(2, .ptr 0 0 0), (7, .ptr 1 0 0)], stab [(0, .var [.d (.int .u16 0), .d (.int .u16 0), .d (.int .u16 0), .d (.int .u16 0), .d (.int .u16 0), .d (.int .u16 0), .d (.int .u16 0), .d (.int .u16 0), .d (.bool false), .d (.int .u16 0), .d (.int .u64 0)]), (1, .var [.d (.int .u16 qq.1.P.a0), .d (.int .u16 qq.1.P.a1), .d (.int .u16 qq.1.P.a2), .d (.int .u16 qq.1.P.a3), .d (.int .u16 qq.1.P.a4), .d (.int .u16 qq.1.P.a5), .d (.int .u16 qq.1.P.a6), .d (.int .u16 qq.1.P.a7), .d (.bool qq.1.Tagged), .d (.int .u16 qq.1.Tag), .d (.int .u64 qq.1.Digest)])], 2⟩) Low low_step hl (by unfold Low; omega) ?_ ?_ ?_
        · rintro i33 ⟨y34, y35⟩ xr40 hinv38 hgo37 h
          show NWp _ _ _ _ _ ⟨tab [(2, .ptr 0 0 0), (7, .ptr 1 0 0), (8, .ptr 2 0 0), (63, .d (.int .i64 i33))], stab [(0, .var [.d (.int .u16 0), .d (.int .u16 0), .d (.int .u16 0), .d (.int .u16 0), .d (.int .u16 0), .d (.int .u16 0), .d (.int .u16 0), .d (.int .u16 0), .d (.bool false), .d (.int .u16 0), .d (.int .u64 0)]), (1, .var [.d (.int .u16 y34.P.a0), .d (.int .u16 y34.P.a1), .d (.int .u16 y34.P.a2), .d (.int .u16 y34.P.a3), .d (.int .u16 y34.P.a4), .d (.int .u16 y34.P.a5), .d (.int .u16 y34.P.a6), .d (.int .u16 y34.P.a7), .d (.bool y34.Tagged), .d (.int .u16 y34.Tag), .d (.int .u64 y34.Digest)]), (2, .var [.d (.str y35.s)])], 3⟩
          have hc39 : decide (i33 < 4) = true := decide_eq_true hgo37
          refine NWp.opsJ ⟨tab [(2, .ptr 0 0 0), (7, .ptr 1 0 0), (8, .ptr 2 0 0), (63, .d (.int .i64 i33)), (64, .d (.bool (decide (i33 < 4))))], stab [(0, .var [.d (.int .u16 0), .d (.int .u16 0), .d (.int .u16 0), .d (.int .u16 0), .d (.int .u16 0), .d (.int .u16 0), .d (.int .u16 0), .d (.int .u16 0), .d (.bool false), .d (.int .u16 0), .d (.int .u64 0)]), (1, .var [.d (.int .u16 y34.P.a0), .d (.int .u16 y34.P.a1), .d (.int .u16 y34.P.a2), .d (.int .u16 y34.P.a3), .d (.int .u16 y34.P.a4), .d (.int .u16 y34.P.a5), .d (.int .u16 y34.P.a6), .d (.int .u16 y34.P.a7), .d (.bool y34.Tagged), .d (.int .u16 y34.Tag), .d (.int .u64 y34.Digest)]), (2, .var [.d (.str y35.s)])], 3⟩ ?_ ?_
          · refine step (v := .d (.bool (decide (i33 < 4)))) rfl ?_
            exact RunOps.nil' (Norm.mk [0, 1, 2] (by decide) (by decide) (by decide) ⟨.ptr 0 _ _ (show 0 < 3 by decide), .ptr 1 _ _ (show 1 < 3 by decide), .ptr 2 _ _ (show 2 < 3 by decide), .d _, .d _, trivial⟩ ⟨⟨show 0 < 3 by decide, _, rfl, .vars ⟨.d _, .d _, .d _, .d _, .d _, .d _, .d _, .d _, .d _, .d _, .d _, trivial⟩⟩, ⟨show 1 < 3 by decide, _, rfl, .vars ⟨.d _, .d _, .d _, .d _, .d _, .d _, .d _, .d _, .d _, .d _, .d _, trivial⟩⟩, ⟨show 2 < 3 by decide, _, rfl, .vars ⟨.d _, trivial⟩⟩, trivial⟩)
          refine NWp.seq ?_
          refine NWp.condT (t := decide (i33 < 4)) rfl hc39 ?_
          refine NWp.skip ?_
          refine NWp.seq ?_
          refine NWp.block ?_
          obtain ⟨r41, hr41, h⟩ := bindE h
          refine NWp.opsSE ⟨tab [(2, .ptr 0 0 0), (7, .ptr 1 0 0), (8, .ptr 2 0 0), (63, .d (.int .i64 i33))], stab [(0, .var [.d (.int .u16 0), .d (.int .u16 0), .d (.int .u16 0), .d (.int .u16 0), .d (.int .u16 0), .d (.int .u16 0), .d (.int .u16 0), .d (.int .u16 0), .d (.bool false), .d (.int .u16 0), .d (.int .u64 0)]), (1, .var [.d (.int .u16 y34.P.a0), .d (.int .u16 y34.P.a1), .d (.int .u16 y34.P.a2), .d (.int .u16 y34.P.a3), .d (.int .u16 y34.P.a4), .d (.int .u16 y34.P.a5), .d (.int .u16 y34.P.a6), .d (.int .u16 y34.P.a7), .d (.bool y34.Tagged), .d (.int .u16 y34.Tag), .d (.int .u64 (orI .u64 (IntKind.u64.wrap (y34.Digest * 2 ^ 16)) (IntKind.u64.wrap r41.1)))]), (2, .var [.d (.str r41.2.s)])], 3⟩ ?_ ?_
          · refine stepL [] [] (v := .ptr 1 0 10) rfl rfl rfl ?_
            refine stepL [1] [] (v := .d (.int .u64 y34.Digest)) rfl rfl rfl ?_
            refine stepL [] [] (v := .d (.int .u64 (IntKind.u64.wrap (y34.Digest * 2 ^ 16)))) rfl rfl rfl ?_
            refine stepLW (σ' := (upd (upd (stab [(0, .var [.d (.int .u16 0), .d (.int .u16 0), .d (.int .u16 0), .d (.int .u16 0), .d (.int .u16 0), .d (.int .u16 0), .d (.int .u16 0), .d (.int .u16 0), .d (.bool false), .d (.int .u16 0), .d (.int .u64 0)]), (1, .var [.d (.int .u16 y34.P.a0), .d (.int .u16 y34.P.a1), .d (.int .u16 y34.P.a2), .d (.int .u16 y34.P.a3), .d (.int .u16 y34.P.a4), .d (.int .u16 y34.P.a5), .d (.int .u16 y34.P.a6), .d (.int .u16 y34.P.a7), .d (.bool y34.Tagged), .d (.int .u16 y34.Tag), .d (.int .u64 y34.Digest)]), (2, .var [.d (.str y35.s)])]) 2 none) 2 (some (.var [.d (.str r41.2.s)])))) (R := [2]) (W := [2, 2]) (SCall.foot [2] (c_frame_reader_two hr41) (by decide) (dom_c (show 0 < 1 by decide) dom_n) rfl [(2, .var [.d (.str y35.s)])] rfl (VNs.c (.ptr 0 _ _ (show 0 < 1 by decide)) VNs.nil0) (SN.c (show 0 < 1 by decide) rfl (.vars (VNs.c (.d _) VNs.nil0)) SN.nil0) (.d (.int .u16 r41.1)) (fun _ => rfl) [(2, none), (2, some (.var [.d (.str r41.2.s)]))] (by simp) (fun _ _ => rfl)) ⟨rfl, trivial⟩ rfl rfl rfl ?_
            refine stepL [] [] (v := .d (.int .u64 (IntKind.u64.wrap r41.1))) rfl rfl rfl ?_
            refine stepL [] [] (v := .d (.int .u64 (orI .u64 (IntKind.u64.wrap (y34.Digest * 2 ^ 16)) (IntKind.u64.wrap r41.1)))) rfl rfl rfl ?_
            refine stepL [] [] (v := .ptr 1 0 10) rfl rfl rfl ?_
            refine stepL [1] [1] (v := V.undef) (σ' := (upd (upd (upd (stab [(0, .var [.d (.int .u16 0), .d (.int .u16 0), .d (.int .u16 0), .d (.int .u16 0), .d (.int .u16 0), .d (.int .u16 0), .d (.int .u16 0), .d (.int .u16 0), .d (.bool false), .d (.int .u16 0), .d (.int .u64 0)]), (1, .var [.d (.int .u16 y34.P.a0), .d (.int .u16 y34.P.a1), .d (.int .u16 y34.P.a2), .d (.int .u16 y34.P.a3), .d (.int .u16 y34.P.a4), .d (.int .u16 y34.P.a5), .d (.int .u16 y34.P.a6), .d (.int .u16 y34.P.a7), .d (.bool y34.Tagged), .d (.int .u16 y34.Tag), .d (.int .u64 y34.Digest)]), (2, .var [.d (.str y35.s)])]) 2 none) 2 (some (.var [.d (.str r41.2.s)]))) 1 (some (.var [.d (.int .u16 y34.P.a0), .d (.int .u16 y34.P.a1), .d (.int .u16 y34.P.a2), .d (.int .u16 y34.P.a3), .d (.int .u16 y34.P.a4), .d (.int .u16 y34.P.a5), .d (.int .u16 y34.P.a6), .d (.int .u16 y34.P.a7), .d (.bool y34.Tagged), .d (.int .u16 y34.Tag), .d (.int .u64 (orI .u64 (IntKind.u64.wrap (y34.Digest * 2 ^ 16)) (IntKind.u64.wrap r41.1)))])))) (n' := 3) rfl rfl rfl ?_
            exact RunOpsL.nil' ⟨by decide, Norm.mk [0, 1, 2] (by decide) (by decide) (by decide) ⟨.ptr 0 _ _ (show 0 < 3 by decide), .ptr 1 _ _ (show 1 < 3 by decide), .ptr 2 _ _ (show 2 < 3 by decide), .d _, trivial⟩ ⟨⟨show 0 < 3 by decide, _, rfl, .vars ⟨.d _, .d _, .d _, .d _, .d _, .d _, .d _, .d _, .d _, .d _, .d _, trivial⟩⟩, ⟨show 1 < 3 by decide, _, rfl, .vars ⟨.d _, .d _, .d _, .d _, .d _, .d _, .d _, .d _, .d _, .d _, .d _, trivial⟩⟩, ⟨show 2 < 3 by decide, _, rfl, .vars ⟨.d _, trivial⟩⟩, trivial⟩⟩
          have hh := Option.some.inj h
          subst hh
          refine NWp.opsE ⟨tab [(2, .ptr 0 0 0), (7, .ptr 1 0 0), (8, .ptr 2 0 0), (63, .d (.int .i64 (i33 + 1)))], stab [(0, .var [.d (.int .u16 0), .d (.int .u16 0), .d (.int .u16 0), .d (.int .u16 0), .d (.int .u16 0), .d (.int .u16 0), .d (.int .u16 0), .d (.int .u16 0), .d (.bool false), .d (.int .u16 0), .d (.int .u64 0)]), (1, .var [.d (.int .u16 ((api_Frame.mk y34.P y34.Tagged y34.Tag (orI .u64 (IntKind.u64.wrap (y34.Digest * 2 ^ 16)) (IntKind.u64.wrap r41.1))).P.a0)), .d (.int .u16 ((api_Frame.mk y34.P y34.Tagged y34.Tag (orI .u64 (IntKind.u64.wrap (y34.Digest * 2 ^ 16)) (IntKind.u64.wrap r41.1))).P.a1)), .d (.int .u16 ((api_Frame.mk y34.P y34.Tagged y34.Tag (orI .u64 (IntKind.u64.wrap (y34.Digest * 2 ^ 16)) (IntKind.u64.wrap r41.1))).P.a2)), .d (.int .u16 ((api_Frame.mk y34.P y34.Tagged y34.Tag (orI .u64 (IntKind.u64.wrap (y34.Digest * 2 ^ 16)) (IntKind.u64.wrap r41.1))).P.a3)), .d (.int .u16 ((api_Frame.mk y34.P y34.Tagged y34.Tag (orI .u64 (IntKind.u64.wrap (y34.Digest * 2 ^ 16)) (IntKind.u64.wrap r41.1))).P.a4)), .d (.int .u16 ((api_Frame.mk y34.P y34.Tagged y34.Tag (orI .u64 (IntKind.u64.wrap (y34.Digest * 2 ^ 16)) (IntKind.u64.wrap r41.1))).P.a5)), .d (.int .u16 ((api_Frame.mk y34.P y34.Tagged y34.Tag (orI .u64 (IntKind.u64.wrap (y34.Digest * 2 ^ 16)) (IntKind.u64.wrap r41.1))).P.a6)), .d (.int .u16 ((api_Frame.mk y34.P y34.Tagged y34.Tag (orI .u64 (IntKind.u64.wrap (y34.Digest * 2 ^ 16)) (IntKind.u64.wrap r41.1))).P.a7)), .d (.bool ((api_Frame.mk y34.P y34.Tagged y34.Tag (orI .u64 (IntKind.u64.wrap (y34.Digest * 2 ^ 16)) (IntKind.u64.wrap r41.1))).Tagged)), .d (.int .u16 ((api_Frame.mk y34.P y34.Tagged y34.Tag (orI .u64 (IntKind.u64.wrap (y34.Digest * 2 ^ 16)) (IntKind.u64.wrap r41.1))).Tag)), .d (.int .u64 ((api_Frame.mk y34.P y34.Tagged y34.Tag (orI .u64 (IntKind.u64.wrap (y34.Digest * 2 ^ 16)) (IntKind.u64.wrap r41.1))).Digest))]), (2, .var [.d (.str r41.2.s)])], 3⟩ ?_ ?_
          · refine step (v := .d (.int .i64 (i33 + 1))) (st_inc (inc_ok hinv38 hgo37 (by decide)) rfl rfl) ?_
            refine step (v := .d (.int .i64 (i33 + 1))) rfl ?_
            exact RunOps.nil' (Norm.mk [0, 1, 2] (by decide) (by decide) (by decide) ⟨.ptr 0 _ _ (show 0 < 3 by decide), .ptr 1 _ _ (show 1 < 3 by decide), .ptr 2 _ _ (show 2 < 3 by decide), .d _, trivial⟩ ⟨⟨show 0 < 3 by decide, _, rfl, .vars ⟨.d _, .d _, .d _, .d _, .d _, .d _, .d _, .d _, .d _, .d _, .d _, trivial⟩⟩, ⟨show 1 < 3 by decide, _, rfl, .vars ⟨.d _, .d _, .d _, .d _, .d _, .d _, .d _, .d _, .d _, .d _, .d _, trivial⟩⟩, ⟨show 2 < 3 by decide, _, rfl, .vars ⟨.d _, trivial⟩⟩, trivial⟩)
          exact And.intro rfl rfl
        · rintro i33 ⟨y34, y35⟩ hinv38 hgo37
          show NWp _ _ _ _ _ ⟨tab [(2, .ptr 0 0 0), (7, .ptr 1 0 0), (8, .ptr 2 0 0), (63, .d (.int .i64 i33))], stab [(0, .var [.d (.int .u16 0), .d (.int .u16 0), .d (.int .u16 0), .d (.int .u16 0), .d (.int .u16 0), .d (.int .u16 0), .d (.int .u16 0), .d (.int .u16 0), .d (.bool false), .d (.int .u16 0), .d (.int .u64 0)]), (1, .var [.d (.int .u16 y34.P.a0), .d (.int .u16 y34.P.a1), .d (.int .u16 y34.P.a2), .d (.int .u16 y34.P.a3), .d (.int .u16 y34.P.a4), .d (.int .u16 y34.P.a5), .d (.int .u16 y34.P.a6), .d (.int .u16 y34.P.a7), .d (.bool y34.Tagged), .d (.int .u16 y34.Tag), .d (.int .u64 y34.Digest)]), (2, .var [.d (.str y35.s)])], 3⟩
          have hc39 : ¬ (decide (i33 < 4) = true) := fun hq => hgo37 (of_decide_eq_true hq)
          refine NWp.opsJ ⟨tab [(2, .ptr 0 0 0), (7, .ptr 1 0 0), (8, .ptr 2 0 0), (63, .d (.int .i64 i33)), (64, .d (.bool (decide (i33 < 4))))], stab [(0, .var [.d (.int .u16 0), .d (.int .u16 0), .d (.int .u16 0), .d (.int .u16 0), .d (.int .u16 0), .d (.int .u16 0), .d (.int .u16 0), .d (.int .u16 0), .d (.bool false), .d (.int .u16 0), .d (.int .u64 0)]), (1, .var [.d (.int .u16 y34.P.a0), .d (.int .u16 y34.P.a1), .d (.int .u16 y34.P.a2), .d (.int .u16 y34.P.a3), .d (.int .u16 y34.P.a4), .d (.int .u16 y34.P.a5), .d (.int .u16 y34.P.a6), .d (.int .u16 y34.P.a7), .d (.bool y34.Tagged), .d (.int .u16 y34.Tag), .d (.int .u64 y34.Digest)]), (2, .var [.d (.str y35.s)])], 3⟩ ?_ ?_
          · refine step (v := .d (.bool (decide (i33 < 4)))) rfl ?_
            exact RunOps.nil' (Norm.mk [0, 1, 2] (by decide) (by decide) (by decide) ⟨.ptr 0 _ _ (show 0 < 3 by decide), .ptr 1 _ _ (show 1 < 3 by decide), .ptr 2 _ _ (show 2 < 3 by decide), .d _, .d _, trivial⟩ ⟨⟨show 0 < 3 by decide, _, rfl, .vars ⟨.d _, .d _, .d _, .d _, .d _, .d _, .d _, .d _, .d _, .d _, .d _, trivial⟩⟩, ⟨show 1 < 3 by decide, _, rfl, .vars ⟨.d _, .d _, .d _, .d _, .d _, .d _, .d _, .d _, .d _, .d _, .d _, trivial⟩⟩, ⟨show 2 < 3 by decide, _, rfl, .vars ⟨.d _, trivial⟩⟩, trivial⟩)
          refine NWp.seq ?_
          refine NWp.condF (t := decide (i33 < 4)) rfl hc39 ?_
          refine NWp.norm (s0 := ⟨tab [(2, .ptr 0 0 0), (7, .ptr 1 0 0)], stab [(0, .var [.d (.int .u16 0), .d (.int .u16 0), .d (.int .u16 0), .d (.int .u16 0), .d (.int .u16 0), .d (.int .u16 0), .d (.int .u16 0), .d (.int .u16 0), .d (.bool false), .d (.int .u16 0), .d (.int .u64 0)]), (1, .var [.d (.int .u16 y34.P.a0), .d (.int .u16 y34.P.a1), .d (.int .u16 y34.P.a2), .d (.int .u16 y34.P.a3), .d (.int .u16 y34.P.a4), .d (.int .u16 y34.P.a5), .d (.int .u16 y34.P.a6), .d (.int .u16 y34.P.a7), .d (.bool y34.Tagged), .d (.int .u16 y34.Tag), .d (.int .u64 y34.Digest)])], 2⟩) (Norm.mk [0, 1] (by decide) (by decide) (by decide) ⟨.ptr 0 _ _ (show 0 < 2 by decide), .ptr 1 _ _ (show 1 < 2 by decide), trivial⟩ ⟨⟨show 0 < 2 by decide, _, rfl, .vars ⟨.d _, .d _, .d _, .d _, .d _, .d _, .d _, .d _, .d _, .d _, .d _, trivial⟩⟩, ⟨show 1 < 2 by decide, _, rfl, .vars ⟨.d _, .d _, .d _, .d _, .d _, .d _, .d _, .d _, .d _, .d _, .d _, trivial⟩⟩, trivial⟩) ?_
          refine NWp.exit ?_
          exact And.intro rfl rfl
        have hh := Option.some.inj h
        subst hh
        exact And.intro rfl rfl
      · replace h := iteF hc31 h
        refine NWp.condF (t := z29.Tagged) rfl hc31 ?_
        have hh := Option.some.inj h
        subst hh
        refine NWp.norm (s0 := ⟨tab [(2, .ptr 0 0 0), (7, .ptr 1 0 0)], stab [(0, .var [.d (.int .u16 0), .d (.int .u16 0), .d (.int .u16 0), .d (.int .u16 0), .d (.int .u16 0), .d (.int .u16 0), .d (.int .u16 0), .d (.int .u16 0), .d (.bool false), .d (.int .u16 0), .d (.int .u64 0)]), (1, .var [.d (.int .u16 z29.P.a0), .d (.int .u16 z29.P.a1), .d (.int .u16 z29.P.a2), .d (.int .u16 z29.P.a3), .d (.int .u16 z29.P.a4), .d (.int .u16 z29.P.a5), .d (.int .u16 z29.P.a6), .d (.int .u16 z29.P.a7), .d (.bool z29.Tagged), .d (.int .u16 z29.Tag), .d (.int .u64 z29.Digest)])], 2⟩) (Norm.mk [0, 1] (by decide) (by decide) (by decide) ⟨.ptr 0 _ _ (show 0 < 2 by decide), .ptr 1 _ _ (show 1 < 2 by decide), trivial⟩ ⟨⟨show 0 < 2 by decide, _, rfl, .vars ⟨.d _, .d _, .d _, .d _, .d _, .d _, .d _, .d _, .d _, .d _, .d _, trivial⟩⟩, ⟨show 1 < 2 by decide, _, rfl, .vars ⟨.d _, .d _, .d _, .d _, .d _, .d _, .d _, .d _, .d _, .d _, .d _, trivial⟩⟩, trivial⟩) ?_
        refine NWp.skip ?_
        exact And.intro rfl rfl
    refine NWp.opsJ ⟨tab [(2, .ptr 0 0 0), (3, .d (.int .i64 0))], stab [(0, .var [.d (.int .u16 y45.P.a0), .d (.int .u16 y45.P.a1), .d (.int .u16 y45.P.a2), .d (.int .u16 y45.P.a3), .d (.int .u16 y45.P.a4), .d (.int .u16 y45.P.a5), .d (.int .u16 y45.P.a6), .d (.int .u16 y45.P.a7), .d (.bool y45.Tagged), .d (.int .u16 y45.Tag), .d (.int .u64 y45.Digest)])], 1⟩ ?_ ?_
    · refine step (v := .d (eapi_Frame y45)) (st_ldV (ds := [.int .u16 y45.P.a0, .int .u16 y45.P.a1, .int .u16 y45.P.a2, .int .u16 y45.P.a3, .int .u16 y45.P.a4, .int .u16 y45.P.a5, .int .u16 y45.P.a6, .int .u16 y45.P.a7, .bool y45.Tagged, .int .u16 y45.Tag, .int .u64 y45.Digest]) rfl rfl (show 11 ≤ 11 by decide) rfl) ?_
      refine step (v := V.undef) (σ' := (upd (stab [(0, .var [.d (.int .u16 0), .d (.int .u16 0), .d (.int .u16 0), .d (.int .u16 0), .d (.int .u16 0), .d (.int .u16 0), .d (.int .u16 0), .d (.int .u16 0), .d (.bool false), .d (.int .u16 0), .d (.int .u64 0)]), (1, .var [.d (.int .u16 y45.P.a0), .d (.int .u16 y45.P.a1), .d (.int .u16 y45.P.a2), .d (.int .u16 y45.P.a3), .d (.int .u16 y45.P.a4), .d (.int .u16 y45.P.a5), .d (.int .u16 y45.P.a6), .d (.int .u16 y45.P.a7), .d (.bool y45.Tagged), .d (.int .u16 y45.Tag), .d (.int .u64 y45.Digest)])]) 0 (some (.var [.d (.int .u16 y45.P.a0), .d (.int .u16 y45.P.a1), .d (.int .u16 y45.P.a2), .d (.int .u16 y45.P.a3), .d (.int .u16 y45.P.a4), .d (.int .u16 y45.P.a5), .d (.int .u16 y45.P.a6), .d (.int .u16 y45.P.a7), .d (.bool y45.Tagged), .d (.int .u16 y45.Tag), .d (.int .u64 y45.Digest)])))) (n' := 2) rfl ?_
      refine step (v := .d (.int .i64 0)) rfl ?_
      exact RunOps.nil' (Norm.mk [0] (by decide) (by decide) (by decide) ⟨.ptr 0 _ _ (show 0 < 1 by decide), .d _, trivial⟩ ⟨⟨show 0 < 1 by decide, _, rfl, .vars ⟨.d _, .d _, .d _, .d _, .d _, .d _, .d _, .d _, .d _, .d _, .d _, trivial⟩⟩, trivial⟩)
    have hh := Option.some.inj h
    subst hh
    refine NWp.ret ?_
    show FQ _ _ _ _
    exact FQ.mkT (.inr rfl) (res_cell (ds := [.int .u16 y45.P.a0, .int .u16 y45.P.a1, .int .u16 y45.P.a2, .int .u16 y45.P.a3, .int .u16 y45.P.a4, .int .u16 y45.P.a5, .int .u16 y45.P.a6, .int .u16 y45.P.a7, .bool y45.Tagged, .int .u16 y45.Tag, .int .u64 y45.Digest]) rfl rfl (show 11 ≤ 11 by decide) rfl (res_t (v := .d (.int .i64 0)) rfl rfl)) (RV.d (RV.d trivial))

theorem c_law03_awake  {r : Bool} (h : law03_awake  = some r) : PCall Try.prog 22 [] (.bool r) := by
  refine PCall.introN ok22 (show 0 ≤ 41 by decide) ?_
  refine NWp.norm (s0 := ⟨tab [], stab [], 0⟩) (Norm.mk [] (by decide) (by decide) (by decide) trivial trivial) ?_
  refine NWp.opsJ ⟨tab [], stab [], 0⟩ ?_ ?_
  · refine step (v := .d (.bool false)) rfl ?_
    exact RunOps.nil' (Norm.mk [] (by decide) (by decide) (by decide) trivial trivial)
  obtain ⟨r1, hr1, h⟩ := bindE h
  refine NWp.opsJ ⟨tab [(1, .ptr 0 0 0)], stab [(0, .var [.d (.int .u16 r1.P.a0), .d (.int .u16 r1.P.a1), .d (.int .u16 r1.P.a2), .d (.int .u16 r1.P.a3), .d (.int .u16 r1.P.a4), .d (.int .u16 r1.P.a5), .d (.int .u16 r1.P.a6), .d (.int .u16 r1.P.a7), .d (.bool r1.Tagged), .d (.int .u16 r1.Tag), .d (.int .u64 r1.Digest)])], 1⟩ ?_ ?_
  · refine step (v := .d (eA8 (D.int .u16) (A8.mk 1 2 3 4 0 0 0 0))) (st_build (ds := [.int .u16 1, .int .u16 2, .int .u16 3, .int .u16 4, .int .u16 0, .int .u16 0, .int .u16 0, .int .u16 0]) rfl) ?_
    refine stepC (r := eapi_Frame r1) (ArgsOk.dt (ArgsOk.dt (ArgsOk.dt ArgsOk.nil'))) (c_frame_Tagged hr1) ?_
    refine step (v := .ptr 0 0 0) (σ' := (upd (stab []) 0 (some (.var [.d (.int .u16 0), .d (.int .u16 0), .d (.int .u16 0), .d (.int .u16 0), .d (.int .u16 0), .d (.int .u16 0), .d (.int .u16 0), .d (.int .u16 0), .d (.bool false), .d (.int .u16 0), .d (.int .u64 0)])))) (n' := 1) rfl ?_
    refine step (v := V.undef) (σ' := (upd (upd (stab []) 0 (some (.var [.d (.int .u16 0), .d (.int .u16 0), .d (.int .u16 0), .d (.int .u16 0), .d (.int .u16 0), .d (.int .u16 0), .d (.int .u16 0), .d (.int .u16 0), .d (.bool false), .d (.int .u16 0), .d (.int .u64 0)]))) 0 (some (.var [.d (.int .u16 r1.P.a0), .d (.int .u16 r1.P.a1), .d (.int .u16 r1.P.a2), .d (.int .u16 r1.P.a3), .d (.int .u16 r1.P.a4), .d (.int .u16 r1.P.a5), .d (.int .u16 r1.P.a6), .d (.int .u16 r1.P.a7), .d (.bool r1.Tagged), .d (.int .u16 r1.Tag), .d (.int .u64 r1.Digest)])))) (n' := 1) rfl ?_
    exact RunOps.nil' (Norm.mk [0] (by decide) (by decide) (by decide) ⟨.ptr 0 _ _ (show 0 < 1 by decide), trivial⟩ ⟨⟨show 0 < 1 by decide, _, rfl, .vars ⟨.d _, .d _, .d _, .d _, .d _, .d _, .d _, .d _, .d _, .d _, .d _, trivial⟩⟩, trivial⟩)
  obtain ⟨r2, hr2, h⟩ := bindE h
  obtain ⟨r3, hr3, h⟩ := bindE h
  refine NWp.opsJ ⟨tab [(1, .ptr 0 0 0), (2, .ptr 1 0 0), (3, .d (.int .i64 r3.2))], stab [(0, .var [.d (.int .u16 r1.P.a0), .d (.int .u16 r1.P.a1), .d (.int .u16 r1.P.a2), .d (.int .u16 r1.P.a3), .d (.int .u16 r1.P.a4), .d (.int .u16 r1.P.a5), .d (.int .u16 r1.P.a6), .d (.int .u16 r1.P.a7), .d (.bool r1.Tagged), .d (.int .u16 r1.Tag), .d (.int .u64 r1.Digest)]), (1, .var [.d (.int .u16 r3.1.P.a0), .d (.int .u16 r3.1.P.a1), .d (.int .u16 r3.1.P.a2), .d (.int .u16 r3.1.P.a3), .d (.int .u16 r3.1.P.a4), .d (.int .u16 r3.1.P.a5), .d (.int .u16 r3.1.P.a6), .d (.int .u16 r3.1.P.a7), .d (.bool r3.1.Tagged), .d (.int .u16 r3.1.Tag), .d (.int .u64 r3.1.Digest)])], 2⟩ ?_ ?_
  · refine step (v := .d (eapi_Frame r1)) (st_ldV (ds := [.int .u16 r1.P.a0, .int .u16 r1.P.a1, .int .u16 r1.P.a2, .int .u16 r1.P.a3, .int .u16 r1.P.a4, .int .u16 r1.P.a5, .int .u16 r1.P.a6, .int .u16 r1.P.a7, .bool r1.Tagged, .int .u16 r1.Tag, .int .u64 r1.Digest]) rfl rfl (show 11 ≤ 11 by decide) rfl) ?_
    refine stepC (r := .str r2) (ArgsOk.dt ArgsOk.nil') (c_frame_Encode hr2) ?_
    refine stepC (r := .tup [eapi_Frame r3.1, .int .i64 r3.2]) (ArgsOk.dt ArgsOk.nil') (c_frame_Decode hr3) ?_
    refine step (v := .d (.tup [eapi_Frame r3.1, .int .i64 r3.2])) rfl ?_
    refine step (v := .d (eapi_Frame r3.1)) rfl ?_
    refine step (v := .d (.int .i64 r3.2)) rfl ?_
    refine step (v := .ptr 1 0 0) (σ' := (upd (stab [(0, .var [.d (.int .u16 r1.P.a0), .d (.int .u16 r1.P.a1), .d (.int .u16 r1.P.a2), .d (.int .u16 r1.P.a3), .d (.int .u16 r1.P.a4), .d (.int .u16 r1.P.a5), .d (.int .u16 r1.P.a6), .d (.int .u16 r1.P.a7), .d (.bool r1.Tagged), .d (.int .u16 r1.Tag), .d (.int .u64 r1.Digest)])]) 1 (some (.var [.d (.int .u16 0), .d (.int .u16 0), .d (.int .u16 0), .d (.int .u16 0), .d (.int .u16 0), .d (.int .u16 0), .d (.int .u16 0), .d (.int .u16 0), .d (.bool false), .d (.int .u16 0), .d (.int .u64 0)])))) (n' := 2) rfl ?_
    refine step (v := V.undef) (σ' := (upd (upd (stab [(0, .var [.d (.int .u16 r1.P.a0), .d (.int .u16 r1.P.a1), .d (.int .u16 r1.P.a2), .d (.int .u16 r1.P.a3), .d (.int .u16 r1.P.a4), .d (.int .u16 r1.P.a5), .d (.int .u16 r1.P.a6), .d (.int .u16 r1.P.a7), .d (.bool r1.Tagged), .d (.int .u16 r1.Tag), .d (.int .u64 r1.Digest)])]) 1 (some (.var [.d (.int .u16 0), .d (.int .u16 0), .d (.int .u16 0), .d (.int .u16 0), .d (.int .u16 0), .d (.int .u16 0), .d (.int .u16 0), .d (.int .u16 0), .d (.bool false), .d (.int .u16 0), .d (.int .u64 0)]))) 1 (some (.var [.d (.int .u16 r3.1.P.a0), .d (.int .u16 r3.1.P.a1), .d (.int .u16 r3.1.P.a2), .d (.int .u16 r3.1.P.a3), .d (.int .u16 r3.1.P.a4), .d (.int .u16 r3.1.P.a5), .d (.int .u16 r3.1.P.a6), .d (.int .u16 r3.1.P.a7), .d (.bool r3.1.Tagged), .d (.int .u16 r3.1.Tag), .d (.int .u64 r3.1.Digest)])))) (n' := 2) rfl ?_
    refine step (v := .d (.int .i64 r3.2)) rfl ?_
    exact RunOps.nil' (Norm.mk [0, 1] (by decide) (by decide) (by decide) ⟨.ptr 0 _ _ (show 0 < 2 by decide), .ptr 1 _ _ (show 1 < 2 by decide), .d _, trivial⟩ ⟨⟨show 0 < 2 by decide, _, rfl, .vars ⟨.d _, .d _, .d _, .d _, .d _, .d _, .d _, .d _, .d _, .d _, .d _, trivial⟩⟩, ⟨show 1 < 2 by decide, _, rfl, .vars ⟨.d _, .d _, .d _, .d _, .d _, .d _, .d _, .d _, .d _, .d _, .d _, trivial⟩⟩, trivial⟩)
  refine NWp.opsJ ⟨tab [(0, .d (.bool ((r3.2 == 0) && ((r3.1 == r1) && ((r3.1.Tag == 7) && ((r3.1.Digest == 9) && ((r3.1.P.a2 == 3) && (r3.1.P.a0 == 0))))))))], stab [], 0⟩ ?_ ?_
  · refine step (v := .d (.int .i64 r3.2)) rfl ?_
    refine step (v := .d (.bool (r3.2 == 0))) rfl ?_
    refine step (v := .d (.bool (r3.2 == 0))) rfl ?_
    by_cases hg4 : (r3.2 == 0) = true
    · refine stepG (c := (r3.2 == 0)) rfl hg4 ?_
      refine step (v := .d (eapi_Frame r3.1)) (st_ldV (ds := [.int .u16 r3.1.P.a0, .int .u16 r3.1.P.a1, .int .u16 r3.1.P.a2, .int .u16 r3.1.P.a3, .int .u16 r3.1.P.a4, .int .u16 r3.1.P.a5, .int .u16 r3.1.P.a6, .int .u16 r3.1.P.a7, .bool r3.1.Tagged, .int .u16 r3.1.Tag, .int .u64 r3.1.Digest]) rfl rfl (show 11 ≤ 11 by decide) rfl) ?_
      refine stepG (c := (r3.2 == 0)) rfl hg4 ?_
      refine step (v := .d (eapi_Frame r1)) (st_ldV (ds := [.int .u16 r1.P.a0, .int .u16 r1.P.a1, .int .u16 r1.P.a2, .int .u16 r1.P.a3, .int .u16 r1.P.a4, .int .u16 r1.P.a5, .int .u16 r1.P.a6, .int .u16 r1.P.a7, .bool r1.Tagged, .int .u16 r1.Tag, .int .u64 r1.Digest]) rfl rfl (show 11 ≤ 11 by decide) rfl) ?_
      refine stepG (c := (r3.2 == 0)) rfl hg4 ?_
      refine step (v := .d (.bool (r3.1 == r1))) (st_eqS (neg := false) rfl rfl (eqS_api_Frame r3.1 r1)) ?_
      refine step (v := .d (.bool (r3.1 == r1))) (st_pickT (b := (r3.2 == 0)) rfl hg4 rfl) ?_
      refine step (v := .d (.bool (r3.1 == r1))) rfl ?_
      by_cases hg5 : (r3.1 == r1) = true
      · refine stepG (c := (r3.1 == r1)) rfl hg5 ?_
        refine step (v := .ptr 1 0 9) rfl ?_
        refine stepG (c := (r3.1 == r1)) rfl hg5 ?_
        refine step (v := .d (.int .u16 r3.1.Tag)) rfl ?_
        refine stepG (c := (r3.1 == r1)) rfl hg5 ?_
        refine step (v := .d (.bool (r3.1.Tag == 7))) rfl ?_
        refine step (v := .d (.bool (r3.1.Tag == 7))) (st_pickT (b := (r3.1 == r1)) rfl hg5 rfl) ?_
        refine step (v := .d (.bool (r3.1.Tag == 7))) rfl ?_
        by_cases hg6 : (r3.1.Tag == 7) = true
        · refine stepG (c := (r3.1.Tag == 7)) rfl hg6 ?_
          refine step (v := .ptr 1 0 10) rfl ?_
          refine stepG (c := (r3.1.Tag == 7)) rfl hg6 ?_
          refine step (v := .d (.int .u64 r3.1.Digest)) rfl ?_
          refine stepG (c := (r3.1.Tag == 7)) rfl hg6 ?_
          refine step (v := .d (.bool (r3.1.Digest == 9))) rfl ?_
          refine step (v := .d (.bool (r3.1.Digest == 9))) (st_pickT (b := (r3.1.Tag == 7)) rfl hg6 rfl) ?_
          refine step (v := .d (.bool (r3.1.Digest == 9))) rfl ?_
          by_cases hg7 : (r3.1.Digest == 9) = true
          · refine stepG (c := (r3.1.Digest == 9)) rfl hg7 ?_
            refine step (v := .ptr 1 0 0) rfl ?_
            refine stepG (c := (r3.1.Digest == 9)) rfl hg7 ?_
            refine step (v := .ptr 1 0 2) rfl ?_
            refine stepG (c := (r3.1.Digest == 9)) rfl hg7 ?_
            refine step (v := .d (.int .u16 r3.1.P.a2)) rfl ?_
            refine stepG (c := (r3.1.Digest == 9)) rfl hg7 ?_
            refine step (v := .d (.bool (r3.1.P.a2 == 3))) rfl ?_
            refine step (v := .d (.bool (r3.1.P.a2 == 3))) (st_pickT (b := (r3.1.Digest == 9)) rfl hg7 rfl) ?_
            refine step (v := .d (.bool (r3.1.P.a2 == 3))) rfl ?_
            by_cases hg8 : (r3.1.P.a2 == 3) = true
            · refine stepG (c := (r3.1.P.a2 == 3)) rfl hg8 ?_
              refine step (v := .ptr 1 0 0) rfl ?_
              refine stepG (c := (r3.1.P.a2 == 3)) rfl hg8 ?_
              refine step (v := .ptr 1 0 0) rfl ?_
              refine stepG (c := (r3.1.P.a2 == 3)) rfl hg8 ?_
              refine step (v := .d (.int .u16 r3.1.P.a0)) rfl ?_
              refine stepG (c := (r3.1.P.a2 == 3)) rfl hg8 ?_
              refine step (v := .d (.bool (r3.1.P.a0 == 0))) rfl ?_
              refine step (v := .d (.bool (r3.1.P.a0 == 0))) (st_pickT (b := (r3.1.P.a2 == 3)) rfl hg8 rfl) ?_
              refine step (v := .d (.bool (r3.1.P.a0 == 0))) rfl ?_
              exact RunOps.nil' (Norm.mk [] (by decide) (by decide) (by decide) ⟨.eq (by simp [hg4, hg5, hg6, hg7, hg8]), trivial⟩ trivial)
            · refine stepX (c := (r3.1.P.a2 == 3)) rfl hg8 ?_
              refine stepX (c := (r3.1.P.a2 == 3)) rfl hg8 ?_
              refine stepX (c := (r3.1.P.a2 == 3)) rfl hg8 ?_
              refine stepX (c := (r3.1.P.a2 == 3)) rfl hg8 ?_
              refine step (v := .d (.bool false)) (st_pickF (b := (r3.1.P.a2 == 3)) rfl hg8 rfl) ?_
              refine step (v := .d (.bool false)) rfl ?_
              exact RunOps.nil' (Norm.mk [] (by decide) (by decide) (by decide) ⟨.eq (by simp [hg4, hg5, hg6, hg7, hg8]), trivial⟩ trivial)
          · refine stepX (c := (r3.1.Digest == 9)) rfl hg7 ?_
            refine stepX (c := (r3.1.Digest == 9)) rfl hg7 ?_
            refine stepX (c := (r3.1.Digest == 9)) rfl hg7 ?_
            refine stepX (c := (r3.1.Digest == 9)) rfl hg7 ?_
            refine step (v := .d (.bool false)) (st_pickF (b := (r3.1.Digest == 9)) rfl hg7 rfl) ?_
            refine step (v := .d (.bool false)) rfl ?_
            refine stepX (c := false) rfl (by decide) ?_
            refine stepX (c := false) rfl (by decide) ?_
            refine stepX (c := false) rfl (by decide) ?_
            refine stepX (c := false) rfl (by decide) ?_
            refine step (v := .d (.bool false)) (st_pickF (b := false) rfl (by decide) rfl) ?_
            refine step (v := .d (.bool false)) rfl ?_
            exact RunOps.nil' (Norm.mk [] (by decide) (by decide) (by decide) ⟨.eq (by simp [hg4, hg5, hg6, hg7]), trivial⟩ trivial)
        · refine stepX (c := (r3.1.Tag == 7)) rfl hg6 ?_
          refine stepX (c := (r3.1.Tag == 7)) rfl hg6 ?_
          refine stepX (c := (r3.1.Tag == 7)) rfl hg6 ?_
          refine step (v := .d (.bool false)) (st_pickF (b := (r3.1.Tag == 7)) rfl hg6 rfl) ?_
          refine step (v := .d (.bool false)) rfl ?_
          refine stepX (c := false) rfl (by decide) ?_
          refine stepX (c := false) rfl (by decide) ?_
          refine stepX (c := false) rfl (by decide) ?_
          refine stepX (c := false) rfl (by decide) ?_
          refine step (v := .d (.bool false)) (st_pickF (b := false) rfl (by decide) rfl) ?_
          refine step (v := .d (.bool false)) rfl ?_
          refine stepX (c := false) rfl (by decide) ?_
          refine stepX (c := false) rfl (by decide) ?_
          refine stepX (c := false) rfl (by decide) ?_
          refine stepX (c := false) rfl (by decide) ?_
          refine step (v := .d (.bool false)) (st_pickF (b := false) rfl (by decide) rfl) ?_
          refine step (v := .d (.bool false)) rfl ?_
          exact RunOps.nil' (Norm.mk [] (by decide) (by decide) (by decide) ⟨.eq (by simp [hg4, hg5, hg6]), trivial⟩ trivial)
      · refine stepX (c := (r3.1 == r1)) rfl hg5 ?_
        refine stepX (c := (r3.1 == r1)) rfl hg5 ?_
        refine stepX (c := (r3.1 == r1)) rfl hg5 ?_
        refine step (v := .d (.bool false)) (st_pickF (b := (r3.1 == r1)) rfl hg5 rfl) ?_
        refine step (v := .d (.bool false)) rfl ?_
        refine stepX (c := false) rfl (by decide) ?_
        refine stepX (c := false) rfl (by decide) ?_
        refine stepX (c := false) rfl (by decide) ?_
        refine step (v := .d (.bool false)) (st_pickF (b := false) rfl (by decide) rfl) ?_
        refine step (v := .d (.bool false)) rfl ?_
        refine stepX (c := false) rfl (by decide) ?_
        refine stepX (c := false) rfl (by decide) ?_
        refine stepX (c := false) rfl (by decide) ?_
        refine stepX (c := false) rfl (by decide) ?_
        refine step (v := .d (.bool false)) (st_pickF (b := false) rfl (by decide) rfl) ?_
        refine step (v := .d (.bool false)) rfl ?_
        refine stepX (c := false) rfl (by decide) ?_
        refine stepX (c := false) rfl (by decide) ?_
        refine stepX (c := false) rfl (by decide) ?_
        refine stepX (c := false) rfl (by decide) ?_
        refine step (v := .d (.bool false)) (st_pickF (b := false) rfl (by decide) rfl) ?_
        refine step (v := .d (.bool false)) rfl ?_
        exact RunOps.nil' (Norm.mk [] (by decide) (by decide) (by decide) ⟨.eq (by simp [hg4, hg5]), trivial⟩ trivial)
    · refine stepX (c := (r3.2 == 0)) rfl hg4 ?_
      refine stepX (c := (r3.2 == 0)) rfl hg4 ?_
      refine stepX (c := (r3.2 == 0)) rfl hg4 ?_
      refine step (v := .d (.bool false)) (st_pickF (b := (r3.2 == 0)) rfl hg4 rfl) ?_
      refine step (v := .d (.bool false)) rfl ?_
      refine stepX (c := false) rfl (by decide) ?_
      refine stepX (c := false) rfl (by decide) ?_
      refine stepX (c := false) rfl (by decide) ?_
      refine step (v := .d (.bool false)) (st_pickF (b := false) rfl (by decide) rfl) ?_
      refine step (v := .d (.bool false)) rfl ?_
      refine stepX (c := false) rfl (by decide) ?_
      refine stepX (c := false) rfl (by decide) ?_
      refine stepX (c := false) rfl (by decide) ?_
      refine step (v := .d (.bool false)) (st_pickF (b := false) rfl (by decide) rfl) ?_
      refine step (v := .d (.bool false)) rfl ?_
      refine stepX (c := false) rfl (by decide) ?_
      refine stepX (c := false) rfl (by decide) ?_
      refine stepX (c := false) rfl (by decide) ?_
      refine stepX (c := false) rfl (by decide) ?_
      refine step (v := .d (.bool false)) (st_pickF (b := false) rfl (by decide) rfl) ?_
      refine step (v := .d (.bool false)) rfl ?_
      refine stepX (c := false) rfl (by decide) ?_
      refine stepX (c := false) rfl (by decide) ?_
      refine stepX (c := false) rfl (by decide) ?_
      refine stepX (c := false) rfl (by decide) ?_
      refine step (v := .d (.bool false)) (st_pickF (b := false) rfl (by decide) rfl) ?_
      refine step (v := .d (.bool false)) rfl ?_
      exact RunOps.nil' (Norm.mk [] (by decide) (by decide) (by decide) ⟨.eq (by simp [hg4]), trivial⟩ trivial)
  have hh := Option.some.inj h
  subst hh
  refine NWp.ret ?_
  show FQ _ _ _ _
  exact FQ.mk1 (.inr rfl) (res_t (v := .d (.bool ((r3.2 == 0) && ((r3.1 == r1) && ((r3.1.Tag == 7) && ((r3.1.Digest == 9) && ((r3.1.P.a2 == 3) && (r3.1.P.a0 == 0)))))))) rfl rfl) (RV.d trivial)

theorem c_ref03_number {a0 : ByteArray} {a1 : Int} {r : Int} (h : ref03_number a0 a1 = some r) : PCall Try.prog 45 [.str a0, .int .i64 a1] (.int .u16 r) := by
  refine PCall.introN ok45 (show 2 ≤ 16 by decide) ?_
  refine NWp.norm (s0 := ⟨tab [(0, .d (.str a0)), (1, .d (.int .i64 a1))], stab [], 0⟩) (Norm.mk [] (by decide) (by decide) (by decide) ⟨.d _, .d _, trivial⟩ trivial) ?_
  refine NWp.opsJ ⟨tab [(0, .d (.str a0)), (1, .d (.int .i64 a1))], stab [], 0⟩ ?_ ?_
  · refine step (v := .d (.int .u16 0)) rfl ?_
    exact RunOps.nil' (Norm.mk [] (by decide) (by decide) (by decide) ⟨.d _, .d _, trivial⟩ trivial)
  obtain ⟨b1, hb1, h⟩ := bindE h
  obtain ⟨b2, hb2, h⟩ := bindE h
  refine NWp.opsJ ⟨tab [(4, .d (.int .u16 (IntKind.u16.wrap ((IntKind.u16.wrap ((IntKind.u16.wrap b1) * 256)) + (IntKind.u16.wrap b2)))))], stab [], 0⟩ ?_ ?_
  · refine step (v := .d (.str a0)) rfl ?_
    refine step (v := .d (.int .i64 a1)) rfl ?_
    refine step (v := .d (.int .u8 b1)) (st_idxS hb1 rfl rfl) ?_
    refine step (v := .d (.int .u16 (IntKind.u16.wrap b1))) rfl ?_
    refine step (v := .d (.int .u16 (IntKind.u16.wrap ((IntKind.u16.wrap b1) * 256)))) rfl ?_
    refine step (v := .d (.str a0)) rfl ?_
    refine step (v := .d (.int .i64 a1)) rfl ?_
    refine step (v := .d (.int .i64 (IntKind.i64.wrap (a1 + 1)))) rfl ?_
    refine step (v := .d (.int .u8 b2)) (st_idxS hb2 rfl rfl) ?_
    refine step (v := .d (.int .u16 (IntKind.u16.wrap b2))) rfl ?_
    refine step (v := .d (.int .u16 (IntKind.u16.wrap ((IntKind.u16.wrap ((IntKind.u16.wrap b1) * 256)) + (IntKind.u16.wrap b2))))) rfl ?_
    refine step (v := .d (.int .u16 (IntKind.u16.wrap ((IntKind.u16.wrap ((IntKind.u16.wrap b1) * 256)) + (IntKind.u16.wrap b2))))) rfl ?_
    exact RunOps.nil' (Norm.mk [] (by decide) (by decide) (by decide) ⟨.d _, trivial⟩ trivial)
  have hh := Option.some.inj h
  subst hh
  refine NWp.ret ?_
  show FQ _ _ _ _
  exact FQ.mk1 (.inr rfl) (res_t (v := .d (.int .u16 (IntKind.u16.wrap ((IntKind.u16.wrap ((IntKind.u16.wrap b1) * 256)) + (IntKind.u16.wrap b2))))) rfl rfl) (RV.d trivial)

theorem c_ref03_Two {a0 : Int} {r : (List Int)} (h : ref03_Two a0 = some r) : PCall Try.prog 47 [.int .u16 a0] (eL none (D.int .u8) r) := by
  refine PCall.introN ok47 (show 1 ≤ 10 by decide) ?_
  refine NWp.norm (s0 := ⟨tab [(0, .d (.int .u16 a0))], stab [], 0⟩) (Norm.mk [] (by decide) (by decide) (by decide) ⟨.d _, trivial⟩ trivial) ?_
  refine NWp.opsJ ⟨tab [(0, .d (.int .u16 a0))], stab [], 0⟩ ?_ ?_
  · refine step (v := .d (eL none (D.int .u8) ([] : List Int))) rfl ?_
    exact RunOps.nil' (Norm.mk [] (by decide) (by decide) (by decide) ⟨.d _, trivial⟩ trivial)
  refine NWp.opsJ ⟨tab [(2, .d (eL none (D.int .u8) ([IntKind.u8.wrap (IntKind.u16.wrap (a0.tdiv 256)), IntKind.u8.wrap (a0.tmod 256)] : List Int)))], stab [], 0⟩ ?_ ?_
  · refine step (v := .d (.int .u16 a0)) rfl ?_
    refine step (v := .d (.int .u16 (IntKind.u16.wrap (a0.tdiv 256)))) rfl ?_
    refine step (v := .d (.int .u8 (IntKind.u8.wrap (IntKind.u16.wrap (a0.tdiv 256))))) rfl ?_
    refine step (v := .d (.int .u16 a0)) rfl ?_
    refine step (v := .d (.int .u16 (a0.tmod 256))) rfl ?_
    refine step (v := .d (.int .u8 (IntKind.u8.wrap (a0.tmod 256)))) rfl ?_
    refine step (v := .d (eL none (D.int .u8) ([IntKind.u8.wrap (IntKind.u16.wrap (a0.tdiv 256)), IntKind.u8.wrap (a0.tmod 256)] : List Int))) rfl ?_
    refine step (v := .d (eL none (D.int .u8) ([IntKind.u8.wrap (IntKind.u16.wrap (a0.tdiv 256)), IntKind.u8.wrap (a0.tmod 256)] : List Int))) rfl ?_
    exact RunOps.nil' (Norm.mk [] (by decide) (by decide) (by decide) ⟨.d _, trivial⟩ trivial)
  have hh := Option.some.inj h
  subst hh
  refine NWp.ret ?_
  show FQ _ _ _ _
  exact FQ.mk1 (.inr rfl) (res_t (v := .d (eL none (D.int .u8) ([IntKind.u8.wrap (IntKind.u16.wrap (a0.tdiv 256)), IntKind.u8.wrap (a0.tmod 256)] : List Int))) rfl rfl) (RV.d trivial)

theorem c_ref03_Check {a0 : (List Int)} {r : Int} (h : ref03_Check a0 = some r) : PCall Try.prog 48 [eL none (D.int .u8) a0] (.int .u16 r) := by
  refine PCall.introN ok48 (show 1 ≤ 24 by decide) ?_
  refine NWp.norm (s0 := ⟨tab [(0, .d (eL none (D.int .u8) a0))], stab [], 0⟩) (Norm.mk [] (by decide) (by decide) (by decide) ⟨.d _, trivial⟩ trivial) ?_
  refine NWp.opsJ ⟨tab [(0, .d (eL none (D.int .u8) a0))], stab [], 0⟩ ?_ ?_
  · refine step (v := .d (.int .u16 0)) rfl ?_
    exact RunOps.nil' (Norm.mk [] (by decide) (by decide) (by decide) ⟨.d _, trivial⟩ trivial)
  refine NWp.opsJ ⟨tab [(0, .d (eL none (D.int .u8) a0)), (3, .d (.int .i64 0))], stab [], 0⟩ ?_ ?_
  · refine step (v := .d (.int .i64 0)) rfl ?_
    exact RunOps.nil' (Norm.mk [] (by decide) (by decide) (by decide) ⟨.d _, .d _, trivial⟩ trivial)
  refine NWp.seq ?_
  refine NWp.opsJ ⟨tab [(0, .d (eL none (D.int .u8) a0)), (3, .d (.int .i64 0)), (4, .d (.int .i64 0))], stab [], 0⟩ ?_ ?_
  · refine step (v := .d (.int .i64 0)) rfl ?_
    exact RunOps.nil' (Norm.mk [] (by decide) (by decide) (by decide) ⟨.d _, .d _, .d _, trivial⟩ trivial)
  obtain ⟨z9, hl, h⟩ := bindE h
  refine NWp.block ?_
  refine loop_forO (cntU (a0.length : Int)) (fun (i2 : Int) (qq : Int) => ⟨tab [(0, .d (eL none (D.int .u8) a0)), (3, .d (.int .i64 qq)), (4, .d (.int .i64 i2))], stab [], 0⟩) 0 (fun (qq : Int) => ⟨tab [(3, .d (.int .i64 qq))], stab [], 0⟩) Low low_step hl (by unfold Low; omega) ?_ ?_ ?_
  · rintro i2 i1 xr7 hinv5 hgo4 h
    show NWp _ _ _ _ _ ⟨tab [(0, .d (eL none (D.int .u8) a0)), (3, .d (.int .i64 i1)), (4, .d (.int .i64 i2))], stab [], 0⟩
    have hc6 : decide (i2 < (a0.length : Int)) = true := decide_eq_true hgo4
    refine NWp.seq ?_
    refine NWp.opsJ ⟨tab [(0, .d (eL none (D.int .u8) a0)), (3, .d (.int .i64 i1)), (4, .d (.int .i64 i2)), (7, .d (.int .i64 (a0.length : Int))), (8, .d (.bool (decide (i2 < (a0.length : Int)))))], stab [], 0⟩ ?_ ?_
    · refine step (v := .d (.int .i64 i2)) rfl ?_
      refine step (v := .d (eL none (D.int .u8) a0)) rfl ?_
      refine step (v := .d (.int .i64 (a0.length : Int))) (st_len (xs := a0) (e := (D.int .u8)) rfl) ?_
      refine step (v := .d (.bool (decide (i2 < (a0.length : Int))))) rfl ?_
      exact RunOps.nil' (Norm.mk [] (by decide) (by decide) (by decide) ⟨.d _, .d _, .d _, .d _, .d _, trivial⟩ trivial)
    refine NWp.rng 7 rfl fun hB3 => ?_
    refine NWp.condT (t := decide (i2 < (a0.length : Int))) rfl hc6 ?_
    refine NWp.skip ?_
    refine NWp.seq ?_
    refine NWp.block ?_
    obtain ⟨x8, hx8, h⟩ := bindE h
    refine NWp.opsE ⟨tab [(0, .d (eL none (D.int .u8) a0)), (3, .d (.int .i64 ((IntKind.i64.wrap (i1 + (IntKind.i64.wrap ((i2 + 1) * (IntKind.i64.wrap x8))))).tmod 65521))), (4, .d (.int .i64 i2))], stab [], 0⟩ ?_ ?_
    · refine step (v := .d (.int .i64 i1)) rfl ?_
      refine step (v := .d (.int .i64 i2)) rfl ?_
      refine step (v := .d (.int .i64 (i2 + 1))) (st_inc (inc_ok hinv5 hgo4 hB3) rfl rfl) ?_
      refine step (v := .d (eL none (D.int .u8) a0)) rfl ?_
      refine step (v := .d (.int .i64 i2)) rfl ?_
      refine step (v := .d (.cptr none (.int .u8 x8) 0)) (st_iaddr (xs := a0) (e := (D.int .u8)) hx8 rfl rfl) ?_
      refine step (v := .d (.int .u8 x8)) rfl ?_
      refine step (v := .d (.int .i64 (IntKind.i64.wrap x8))) rfl ?_
      refine step (v := .d (.int .i64 (IntKind.i64.wrap ((i2 + 1) * (IntKind.i64.wrap x8))))) rfl ?_
      refine step (v := .d (.int .i64 (IntKind.i64.wrap (i1 + (IntKind.i64.wrap ((i2 + 1) * (IntKind.i64.wrap x8))))))) rfl ?_
      refine step (v := .d (.int .i64 ((IntKind.i64.wrap (i1 + (IntKind.i64.wrap ((i2 + 1) * (IntKind.i64.wrap x8))))).tmod 65521))) rfl ?_
      refine step (v := .d (.int .i64 ((IntKind.i64.wrap (i1 + (IntKind.i64.wrap ((i2 + 1) * (IntKind.i64.wrap x8))))).tmod 65521))) rfl ?_
      exact RunOps.nil' (Norm.mk [] (by decide) (by decide) (by decide) ⟨.d _, .d _, .d _, trivial⟩ trivial)
    have hh := Option.some.inj h
    subst hh
    refine NWp.opsE ⟨tab [(0, .d (eL none (D.int .u8) a0)), (3, .d (.int .i64 ((IntKind.i64.wrap (i1 + (IntKind.i64.wrap ((i2 + 1) * (IntKind.i64.wrap x8))))).tmod 65521))), (4, .d (.int .i64 (i2 + 1)))], stab [], 0⟩ ?_ ?_
    · refine step (v := .d (.int .i64 i2)) rfl ?_
      refine step (v := .d (.int .i64 (i2 + 1))) (st_inc (inc_ok hinv5 hgo4 hB3) rfl rfl) ?_
      refine step (v := .d (.int .i64 (i2 + 1))) rfl ?_
      exact RunOps.nil' (Norm.mk [] (by decide) (by decide) (by decide) ⟨.d _, .d _, .d _, trivial⟩ trivial)
    exact And.intro rfl rfl
  · rintro i2 i1 hinv5 hgo4
    show NWp _ _ _ _ _ ⟨tab [(0, .d (eL none (D.int .u8) a0)), (3, .d (.int .i64 i1)), (4, .d (.int .i64 i2))], stab [], 0⟩
    have hc6 : ¬ (decide (i2 < (a0.length : Int)) = true) := fun hq => hgo4 (of_decide_eq_true hq)
    refine NWp.seq ?_
    refine NWp.opsJ ⟨tab [(0, .d (eL none (D.int .u8) a0)), (3, .d (.int .i64 i1)), (4, .d (.int .i64 i2)), (8, .d (.bool (decide (i2 < (a0.length : Int)))))], stab [], 0⟩ ?_ ?_
    · refine step (v := .d (.int .i64 i2)) rfl ?_
      refine step (v := .d (eL none (D.int .u8) a0)) rfl ?_
      refine step (v := .d (.int .i64 (a0.length : Int))) (st_len (xs := a0) (e := (D.int .u8)) rfl) ?_
      refine step (v := .d (.bool (decide (i2 < (a0.length : Int))))) rfl ?_
      exact RunOps.nil' (Norm.mk [] (by decide) (by decide) (by decide) ⟨.d _, .d _, .d _, .d _, trivial⟩ trivial)
    refine NWp.condF (t := decide (i2 < (a0.length : Int))) rfl hc6 ?_
    refine NWp.norm (s0 := ⟨tab [(3, .d (.int .i64 i1))], stab [], 0⟩) (Norm.mk [] (by decide) (by decide) (by decide) ⟨.d _, trivial⟩ trivial) ?_
    refine NWp.exit ?_
    exact And.intro rfl rfl
  refine NWp.opsJ ⟨tab [(2, .d (.int .u16 (IntKind.u16.wrap z9)))], stab [], 0⟩ ?_ ?_
  · refine step (v := .d (.int .i64 z9)) rfl ?_
    refine step (v := .d (.int .u16 (IntKind.u16.wrap z9))) rfl ?_
    refine step (v := .d (.int .u16 (IntKind.u16.wrap z9))) rfl ?_
    exact RunOps.nil' (Norm.mk [] (by decide) (by decide) (by decide) ⟨.d _, trivial⟩ trivial)
  have hh := Option.some.inj h
  subst hh
  refine NWp.ret ?_
  show FQ _ _ _ _
  exact FQ.mk1 (.inr rfl) (res_t (v := .d (.int .u16 (IntKind.u16.wrap z9))) rfl rfl) (RV.d trivial)

theorem c_ref03_Encode {a0 : api_Frame} {r : ByteArray} (h : ref03_Encode a0 = some r) : PCall Try.prog 26 [eapi_Frame a0] (.str r) := by
  refine PCall.introN ok26 (show 1 ≤ 48 by decide) ?_
  refine NWp.norm (s0 := ⟨tab [(0, .d (eapi_Frame a0))], stab [], 0⟩) (Norm.mk [] (by decide) (by decide) (by decide) ⟨.d _, trivial⟩ trivial) ?_
  refine NWp.opsJ ⟨tab [(1, .d (.cptr (some 11) (eapi_Frame a0) 0))], stab [], 0⟩ ?_ ?_
  · refine step (v := .d (.cptr (some 11) (eapi_Frame a0) 0)) rfl ?_
    refine step (v := .d (.str (⟨#[]⟩ : ByteArray))) rfl ?_
    exact RunOps.nil' (Norm.mk [] (by decide) (by decide) (by decide) ⟨.d _, trivial⟩ trivial)
  refine NWp.opsJ ⟨tab [(1, .d (.cptr (some 11) (eapi_Frame a0) 0)), (3, .loc 0 0 (([78, 0] : List Int).length))], stab [(0, .lst true none (List.map (D.int .u8) ([78, 0] : List Int)))], 1⟩ ?_ ?_
  · refine step (v := .loc 0 0 (([78, 0] : List Int).length)) (σ' := (upd (stab []) 0 (some (.lst true none (List.map (D.int .u8) ([78, 0] : List Int)))))) (n' := 1) rfl ?_
    refine step (v := .loc 0 0 (([78, 0] : List Int).length)) rfl ?_
    exact RunOps.nil' (Norm.mk [0] (by decide) (by decide) (by decide) ⟨.d _, .loc 0 _ _ (show 0 < 1 by decide), trivial⟩ ⟨⟨show 0 < 1 by decide, _, rfl, .lst _ _ _⟩, trivial⟩)
  obtain ⟨l4, hv, h⟩ := bindE h
  refine NWp.seqN ⟨tab [(1, .d (.cptr (some 11) (eapi_Frame a0) 0)), (3, .loc 0 0 l4.length)], stab [(0, .lst true none (List.map (D.int .u8) l4))], 1⟩ ?_ ?_
  · replace h := hv
    refine NWp.opsJ ⟨tab [(1, .d (.cptr (some 11) (eapi_Frame a0) 0)), (3, .loc 0 0 (([78, 0] : List Int).length)), (8, .d (.bool a0.Tagged))], stab [(0, .lst true none (List.map (D.int .u8) ([78, 0] : List Int)))], 1⟩ ?_ ?_
    · refine step (v := .d (.cptr (some 11) (eapi_Frame a0) 8)) rfl ?_
      refine step (v := .d (.bool a0.Tagged)) rfl ?_
      exact RunOps.nil' (Norm.mk [0] (by decide) (by decide) (by decide) ⟨.d _, .loc 0 _ _ (show 0 < 1 by decide), .d _, trivial⟩ ⟨⟨show 0 < 1 by decide, _, rfl, .lst _ _ _⟩, trivial⟩)
    by_cases hc1 : a0.Tagged = true
    · replace h := iteT hc1 h
      refine NWp.condT (t := a0.Tagged) rfl hc1 ?_
      obtain ⟨x2, hx2, h⟩ := bindE h
      obtain ⟨l3, hl3, h⟩ := bindE h
      have hh := Option.some.inj h
      subst hh
      refine NWp.opsE ⟨tab [(1, .d (.cptr (some 11) (eapi_Frame a0) 0)), (3, .loc 0 0 l3.length)], stab [(0, .lst true none (List.map (D.int .u8) l3))], 1⟩ ?_ ?_
      · refine step (v := .loc 0 0 (([78, 0] : List Int).length)) rfl ?_
        refine step (v := .ptr 0 (1 : Int).toNat 0) (st_iaddrL (xs := ([78, 0] : List Int)) (e := (D.int .u8)) hx2 rfl rfl rfl rfl) ?_
        refine step (v := V.undef) (σ' := (upd (stab [(0, .lst true none (List.map (D.int .u8) ([78, 0] : List Int)))]) 0 (some (.lst true none (List.map (D.int .u8) l3))))) (n' := 1) (st_storeL' (e := (D.int .u8)) (v' := 1) hl3 rfl rfl rfl rfl rfl) ?_
        exact RunOps.nil' (Norm.mk [0] (by decide) (by decide) (by decide) ⟨.d _, .le (id := 0) (gput_len hl3).symm (show 0 < 1 by decide), trivial⟩ ⟨⟨show 0 < 1 by decide, _, rfl, .lst _ _ _⟩, trivial⟩)
      exact And.intro rfl rfl
    · replace h := iteF hc1 h
      refine NWp.condF (t := a0.Tagged) rfl hc1 ?_
      have hh := Option.some.inj h
      subst hh
      refine NWp.norm (s0 := ⟨tab [(1, .d (.cptr (some 11) (eapi_Frame a0) 0)), (3, .loc 0 0 (([78, 0] : List Int).length))], stab [(0, .lst true none (List.map (D.int .u8) ([78, 0] : List Int)))], 1⟩) (Norm.mk [0] (by decide) (by decide) (by decide) ⟨.d _, .loc 0 _ _ (show 0 < 1 by decide), trivial⟩ ⟨⟨show 0 < 1 by decide, _, rfl, .lst _ _ _⟩, trivial⟩) ?_
      refine NWp.skip ?_
      exact And.intro rfl rfl
  refine NWp.seq ?_
  refine NWp.opsJ ⟨tab [(1, .d (.cptr (some 11) (eapi_Frame a0) 0)), (3, .loc 0 0 l4.length), (4, .d (.int .i64 2))], stab [(0, .lst true none (List.map (D.int .u8) l4))], 1⟩ ?_ ?_
  · refine step (v := .d (.int .i64 2)) rfl ?_
    exact RunOps.nil' (Norm.mk [0] (by decide) (by decide) (by decide) ⟨.d _, .loc 0 _ _ (show 0 < 1 by decide), .d _, trivial⟩ ⟨⟨show 0 < 1 by decide, _, rfl, .lst _ _ _⟩, trivial⟩)
  obtain ⟨z16, hl, h⟩ := bindE h
  refine NWp.block ?_
  refine loop_forO (cntU 8) (fun (i7 : Int) (qq : (List Int)) => ⟨tab [(1, .d (.cptr (some 11) (eapi_Frame a0) 0)), (3, .loc 0 0 qq.length), (4, .d (.int .i64 i7))], stab [(0, .lst true none (List.map (D.int .u8) qq))], 1⟩) 0 (fun (qq : (List Int)) => ⟨tab [(1, .d (.cptr (some 11) (eapi_Frame a0) 0)), (3, .loc 0 0 qq.length)], stab [(0, .lst true none (List.map (D.int .u8) qq))], 1⟩) Low low_step hl (by unfold Low; omega) ?_ ?_ ?_
  · rintro i7 l6 xr12 hinv10 hgo9 h
    show NWp _ _ _ _ _ ⟨tab [(1, .d (.cptr (some 11) (eapi_Frame a0) 0)), (3, .loc 0 0 l6.length), (4, .d (.int .i64 i7))], stab [(0, .lst true none (List.map (D.int .u8) l6))], 1⟩
    have hc11 : decide (i7 < 8) = true := decide_eq_true hgo9
    refine NWp.seq ?_
    refine NWp.opsJ ⟨tab [(1, .d (.cptr (some 11) (eapi_Frame a0) 0)), (3, .loc 0 0 l6.length), (4, .d (.int .i64 i7)), (12, .d (.bool (decide (i7 < 8))))], stab [(0, .lst true none (List.map (D.int .u8) l6))], 1⟩ ?_ ?_
    · refine step (v := .d (.int .i64 i7)) rfl ?_
      refine step (v := .d (.bool (decide (i7 < 8)))) rfl ?_
      exact RunOps.nil' (Norm.mk [0] (by decide) (by decide) (by decide) ⟨.d _, .loc 0 _ _ (show 0 < 1 by decide), .d _, .d _, trivial⟩ ⟨⟨show 0 < 1 by decide, _, rfl, .lst _ _ _⟩, trivial⟩)
    refine NWp.condT (t := decide (i7 < 8)) rfl hc11 ?_
    refine NWp.skip ?_
    refine NWp.seq ?_
    refine NWp.block ?_
    obtain ⟨x13, hx13, h⟩ := bindE h
    obtain ⟨r14, hr14, h⟩ := bindE h
    obtain ⟨l15, hl15, h⟩ := bindE h
    refine NWp.opsE ⟨tab [(1, .d (.cptr (some 11) (eapi_Frame a0) 0)), (3, .loc 0 0 l15.length), (4, .d (.int .i64 i7))], stab [(0, .lst true none (List.map (D.int .u8) l15))], 1⟩ ?_ ?_
    · refine step (v := .loc 0 0 l6.length) rfl ?_
      refine step (v := .d (.int .i64 i7)) rfl ?_
      refine step (v := .d (.cptr (some 11) (eapi_Frame a0) 0)) rfl ?_
      refine step (v := .d (.cptr (some 11) (eapi_Frame a0) (0 + i7.toNat * 1))) (st_iaddrAC (xs := a0.P.l) hx13 rfl rfl rfl) ?_
      refine step (v := .d (.int .u16 x13)) (st_ldIC rfl (ld_arr (e := (D.int .u16)) (xs := a0.P.l) (pre := []) (post := [.bool a0.Tagged, .int .u16 a0.Tag, .int .u64 a0.Digest]) hx13 rfl (by decide))) ?_
      refine stepC (r := eL none (D.int .u8) r14) (ArgsOk.dt ArgsOk.nil') (c_ref03_Two hr14) ?_
      refine step (v := .loc 1 0 l15.length) (σ' := (upd (upd (stab [(0, .lst true none (List.map (D.int .u8) l6))]) 0 none) 1 (some (.lst true none (List.map (D.int .u8) l15))))) (n' := 2) (st_app (xs := l6) (ys := r14) (e := (D.int .u8)) hl15 rfl rfl rfl (src_v (xs := r14) (e := (D.int .u8)) rfl)) ?_
      refine step (v := .loc 1 0 l15.length) rfl ?_
      exact RunOps.nil' (Norm.mk [1] (by decide) (by decide) (by decide) ⟨.d _, .loc 0 _ _ (show 0 < 1 by decide), .d _, trivial⟩ ⟨⟨show 0 < 1 by decide, _, rfl, .lst _ _ _⟩, trivial⟩)
    have hh := Option.some.inj h
    subst hh
    refine NWp.opsE ⟨tab [(1, .d (.cptr (some 11) (eapi_Frame a0) 0)), (3, .loc 0 0 l15.length), (4, .d (.int .i64 (i7 + 1)))], stab [(0, .lst true none (List.map (D.int .u8) l15))], 1⟩ ?_ ?_
    · refine step (v := .d (.int .i64 i7)) rfl ?_
      refine step (v := .d (.int .i64 (i7 + 1))) (st_inc (inc_ok hinv10 hgo9 (by decide)) rfl rfl) ?_
      refine step (v := .d (.int .i64 (i7 + 1))) rfl ?_
      exact RunOps.nil' (Norm.mk [0] (by decide) (by decide) (by decide) ⟨.d _, .loc 0 _ _ (show 0 < 1 by decide), .d _, trivial⟩ ⟨⟨show 0 < 1 by decide, _, rfl, .lst _ _ _⟩, trivial⟩)
    exact And.intro rfl rfl
  · rintro i7 l6 hinv10 hgo9
    show NWp _ _ _ _ _ ⟨tab [(1, .d (.cptr (some 11) (eapi_Frame a0) 0)), (3, .loc 0 0 l6.length), (4, .d (.int .i64 i7))], stab [(0, .lst true none (List.map (D.int .u8) l6))], 1⟩
    have hc11 : ¬ (decide (i7 < 8) = true) := fun hq => hgo9 (of_decide_eq_true hq)
    refine NWp.seq ?_
    refine NWp.opsJ ⟨tab [(1, .d (.cptr (some 11) (eapi_Frame a0) 0)), (3, .loc 0 0 l6.length), (4, .d (.int .i64 i7)), (12, .d (.bool (decide (i7 < 8))))], stab [(0, .lst true none (List.map (D.int .u8) l6))], 1⟩ ?_ ?_
    · refine step (v := .d (.int .i64 i7)) rfl ?_
      refine step (v := .d (.bool (decide (i7 < 8)))) rfl ?_
      exact RunOps.nil' (Norm.mk [0] (by decide) (by decide) (by decide) ⟨.d _, .loc 0 _ _ (show 0 < 1 by decide), .d _, .d _, trivial⟩ ⟨⟨show 0 < 1 by decide, _, rfl, .lst _ _ _⟩, trivial⟩)
    refine NWp.condF (t := decide (i7 < 8)) rfl hc11 ?_
    refine NWp.norm (s0 := ⟨tab [(1, .d (.cptr (some 11) (eapi_Frame a0) 0)), (3, .loc 0 0 l6.length)], stab [(0, .lst true none (List.map (D.int .u8) l6))], 1⟩) (Norm.mk [0] (by decide) (by decide) (by decide) ⟨.d _, .loc 0 _ _ (show 0 < 1 by decide), trivial⟩ ⟨⟨show 0 < 1 by decide, _, rfl, .lst _ _ _⟩, trivial⟩) ?_
    refine NWp.exit ?_
    exact And.intro rfl rfl
  obtain ⟨l32, hv, h⟩ := bindE h
  refine NWp.seqN ⟨tab [(3, .loc 0 0 l32.length)], stab [(0, .lst true none (List.map (D.int .u8) l32))], 1⟩ ?_ ?_
  · replace h := hv
    refine NWp.opsJ ⟨tab [(1, .d (.cptr (some 11) (eapi_Frame a0) 0)), (3, .loc 0 0 z16.length), (23, .d (.bool a0.Tagged))], stab [(0, .lst true none (List.map (D.int .u8) z16))], 1⟩ ?_ ?_
    · refine step (v := .d (.cptr (some 11) (eapi_Frame a0) 8)) rfl ?_
      refine step (v := .d (.bool a0.Tagged)) rfl ?_
      exact RunOps.nil' (Norm.mk [0] (by decide) (by decide) (by decide) ⟨.d _, .loc 0 _ _ (show 0 < 1 by decide), .d _, trivial⟩ ⟨⟨show 0 < 1 by decide, _, rfl, .lst _ _ _⟩, trivial⟩)
    by_cases hc17 : a0.Tagged = true
    · replace h := iteT hc17 h
      refine NWp.condT (t := a0.Tagged) rfl hc17 ?_
      obtain ⟨r18, hr18, h⟩ := bindE h
      obtain ⟨l19, hl19, h⟩ := bindE h
      refine NWp.opsJ ⟨tab [(1, .d (.cptr (some 11) (eapi_Frame a0) 0)), (3, .loc 0 0 l19.length)], stab [(0, .lst true none (List.map (D.int .u8) l19))], 1⟩ ?_ ?_
      · refine step (v := .loc 0 0 z16.length) rfl ?_
        refine step (v := .d (.cptr (some 11) (eapi_Frame a0) 9)) rfl ?_
        refine step (v := .d (.int .u16 a0.Tag)) rfl ?_
        refine stepC (r := eL none (D.int .u8) r18) (ArgsOk.dt ArgsOk.nil') (c_ref03_Two hr18) ?_
        refine step (v := .loc 1 0 l19.length) (σ' := (upd (upd (stab [(0, .lst true none (List.map (D.int .u8) z16))]) 0 none) 1 (some (.lst true none (List.map (D.int .u8) l19))))) (n' := 2) (st_app (xs := z16) (ys := r18) (e := (D.int .u8)) hl19 rfl rfl rfl (src_v (xs := r18) (e := (D.int .u8)) rfl)) ?_
        refine step (v := .loc 1 0 l19.length) rfl ?_
        exact RunOps.nil' (Norm.mk [1] (by decide) (by decide) (by decide) ⟨.d _, .loc 0 _ _ (show 0 < 1 by decide), trivial⟩ ⟨⟨show 0 < 1 by decide, _, rfl, .lst _ _ _⟩, trivial⟩)
      refine NWp.opsJ ⟨tab [(1, .d (.cptr (some 11) (eapi_Frame a0) 0)), (3, .loc 0 0 l19.length), (5, .d (.int .i64 7))], stab [(0, .lst true none (List.map (D.int .u8) l19))], 1⟩ ?_ ?_
      · refine step (v := .d (.int .i64 7)) rfl ?_
        exact RunOps.nil' (Norm.mk [0] (by decide) (by decide) (by decide) ⟨.d _, .loc 0 _ _ (show 0 < 1 by decide), .d _, trivial⟩ ⟨⟨show 0 < 1 by decide, _, rfl, .lst _ _ _⟩, trivial⟩)
      obtain ⟨z29, hl, h⟩ := bindE h
      refine NWp.rng 5 rfl fun hA31 => ?_
      refine NWp.block ?_
      refine loop_forO (cntD (-1)) (fun (i21 : Int) (qq : (List Int)) => ⟨tab [(1, .d (.cptr (some 11) (eapi_Frame a0) 0)), (3, .loc 0 0 qq.length), (5, .d (.int .i64 i21))], stab [(0, .lst true none (List.map (D.int .u8) qq))], 1⟩) 2 (fun (qq : (List Int)) => ⟨tab [(3, .loc 0 0 qq.length)], stab [(0, .lst true none (List.map (D.int .u8) qq))], 1⟩) (fun i => IntKind.i64.wrap i = i) (fun i hi hg => dec_ok hg (by decide) hi) hl hA31 ?_ ?_ ?_
      · rintro i21 l20 xr26 hinv24 hgo23 h
        show NWp _ _ _ _ _ ⟨tab [(1, .d (.cptr (some 11) (eapi_Frame a0) 0)), (3, .loc 0 0 l20.length), (5, .d (.int .i64 i21))], stab [(0, .lst true none (List.map (D.int .u8) l20))], 1⟩
        have hc25 : decide (i21 ≥ 0) = true := decide_eq_true (by omega)
        refine NWp.seq ?_
        refine NWp.opsJ ⟨tab [(1, .d (.cptr (some 11) (eapi_Frame a0) 0)), (3, .loc 0 0 l20.length), (5, .d (.int .i64 i21)), (30, .d (.bool (decide (i21 ≥ 0))))], stab [(0, .lst true none (List.map (D.int .u8) l20))], 1⟩ ?_ ?_
        · refine step (v := .d (.int .i64 i21)) rfl ?_
          refine step (v := .d (.bool (decide (i21 ≥ 0)))) rfl ?_
          exact RunOps.nil' (Norm.mk [0] (by decide) (by decide) (by decide) ⟨.d _, .loc 0 _ _ (show 0 < 1 by decide), .d _, .d _, trivial⟩ ⟨⟨show 0 < 1 by decide, _, rfl, .lst _ _ _⟩, trivial⟩)
        refine NWp.condT (t := decide (i21 ≥ 0)) rfl hc25 ?_
        refine NWp.skip ?_
        refine NWp.seq ?_
        refine NWp.block ?_
        obtain ⟨q27, hq27, h⟩ := bindE h
        obtain ⟨l28, hl28, h⟩ := bindE h
        refine NWp.opsE ⟨tab [(1, .d (.cptr (some 11) (eapi_Frame a0) 0)), (3, .loc 0 0 l28.length), (5, .d (.int .i64 i21))], stab [(0, .lst true none (List.map (D.int .u8) l28))], 1⟩ ?_ ?_
        · refine step (v := .loc 0 0 l20.length) rfl ?_
          refine step (v := .d (.cptr (some 11) (eapi_Frame a0) 10)) rfl ?_
          refine step (v := .d (.int .u64 a0.Digest)) rfl ?_
          refine step (v := .d (.int .i64 i21)) rfl ?_
          refine step (v := .d (.int .i64 (IntKind.i64.wrap (8 * i21)))) rfl ?_
          refine step (v := .d (.int .u64 q27)) (st_shr hq27 rfl rfl) ?_
          refine step (v := .d (.int .u8 (IntKind.u8.wrap q27))) rfl ?_
          refine step (v := .d (eL none (D.int .u8) ([IntKind.u8.wrap q27] : List Int))) rfl ?_
          refine step (v := .loc 1 0 l28.length) (σ' := (upd (upd (stab [(0, .lst true none (List.map (D.int .u8) l20))]) 0 none) 1 (some (.lst true none (List.map (D.int .u8) l28))))) (n' := 2) (st_app (xs := l20) (ys := ([IntKind.u8.wrap q27] : List Int)) (e := (D.int .u8)) hl28 rfl rfl rfl (src_v (xs := ([IntKind.u8.wrap q27] : List Int)) (e := (D.int .u8)) rfl)) ?_
          refine step (v := .loc 1 0 l28.length) rfl ?_
          exact RunOps.nil' (Norm.mk [1] (by decide) (by decide) (by decide) ⟨.d _, .loc 0 _ _ (show 0 < 1 by decide), .d _, trivial⟩ ⟨⟨show 0 < 1 by decide, _, rfl, .lst _ _ _⟩, trivial⟩)
        have hh := Option.some.inj h
        subst hh
        refine NWp.opsE ⟨tab [(1, .d (.cptr (some 11) (eapi_Frame a0) 0)), (3, .loc 0 0 l28.length), (5, .d (.int .i64 (i21 - 1)))], stab [(0, .lst true none (List.map (D.int .u8) l28))], 1⟩ ?_ ?_
        · refine step (v := .d (.int .i64 i21)) rfl ?_
          refine step (v := .d (.int .i64 (i21 - 1))) (st_dec (dec_ok hgo23 (by decide) hinv24) rfl rfl) ?_
          refine step (v := .d (.int .i64 (i21 - 1))) rfl ?_
          exact RunOps.nil' (Norm.mk [0] (by decide) (by decide) (by decide) ⟨.d _, .loc 0 _ _ (show 0 < 1 by decide), .d _, trivial⟩ ⟨⟨show 0 < 1 by decide, _, rfl, .lst _ _ _⟩, trivial⟩)
        exact And.intro rfl rfl
      · rintro i21 l20 hinv24 hgo23
        show NWp _ _ _ _ _ ⟨tab [(1, .d (.cptr (some 11) (eapi_Frame a0) 0)), (3, .loc 0 0 l20.length), (5, .d (.int .i64 i21))], stab [(0, .lst true none (List.map (D.int .u8) l20))], 1⟩
        have hc25 : ¬ (decide (i21 ≥ 0) = true) := fun hq => hgo23 (by have := of_decide_eq_true hq; omega)
        refine NWp.seq ?_
        refine NWp.opsJ ⟨tab [(1, .d (.cptr (some 11) (eapi_Frame a0) 0)), (3, .loc 0 0 l20.length), (5, .d (.int .i64 i21)), (30, .d (.bool (decide (i21 ≥ 0))))], stab [(0, .lst true none (List.map (D.int .u8) l20))], 1⟩ ?_ ?_
        · refine step (v := .d (.int .i64 i21)) rfl ?_
          refine step (v := .d (.bool (decide (i21 ≥ 0)))) rfl ?_
          exact RunOps.nil' (Norm.mk [0] (by decide) (by decide) (by decide) ⟨.d _, .loc 0 _ _ (show 0 < 1 by decide), .d _, .d _, trivial⟩ ⟨⟨show 0 < 1 by decide, _, rfl, .lst _ _ _⟩, trivial⟩)
        refine NWp.condF (t := decide (i21 ≥ 0)) rfl hc25 ?_
        refine NWp.norm (s0 := ⟨tab [(3, .loc 0 0 l20.length)], stab [(0, .lst true none (List.map (D.int .u8) l20))], 1⟩) (Norm.mk [0] (by decide) (by decide) (by decide) ⟨.loc 0 _ _ (show 0 < 1 by decide), trivial⟩ ⟨⟨show 0 < 1 by decide, _, rfl, .lst _ _ _⟩, trivial⟩) ?_
        refine NWp.exit ?_
        exact And.intro rfl rfl
      have hh := Option.some.inj h
      subst hh
      exact And.intro rfl rfl
    · replace h := iteF hc17 h
      refine NWp.condF (t := a0.Tagged) rfl hc17 ?_
      have hh := Option.some.inj h
      subst hh
      refine NWp.norm (s0 := ⟨tab [(3, .loc 0 0 z16.length)], stab [(0, .lst true none (List.map (D.int .u8) z16))], 1⟩) (Norm.mk [0] (by decide) (by decide) (by decide) ⟨.loc 0 _ _ (show 0 < 1 by decide), trivial⟩ ⟨⟨show 0 < 1 by decide, _, rfl, .lst _ _ _⟩, trivial⟩) ?_
      refine NWp.skip ?_
      exact And.intro rfl rfl
  obtain ⟨r34, hr34, h⟩ := bindE h
  obtain ⟨r35, hr35, h⟩ := bindE h
  obtain ⟨l36, hl36, h⟩ := bindE h
  refine NWp.opsJ ⟨tab [(2, .d (.str (strOfB l36)))], stab [], 0⟩ ?_ ?_
  · refine step (v := .loc 0 0 l32.length) rfl ?_
    refine step (v := .loc 0 0 l32.length) rfl ?_
    refine stepW (v := .d (.int .u16 r34)) (σ' := _) (n' := _) (PCall.borrow (c_ref03_Check hr34) rfl (ViewsB.c (viewB_all (xs := l32) (e := (D.int .u8)) rfl rfl) ViewsB.nil0)) (Nat.le_refl _) ?_
    refine stepC (r := eL none (D.int .u8) r35) (ArgsOk.dt ArgsOk.nil') (c_ref03_Two hr35) ?_
    refine step (v := .loc 1 0 l36.length) (σ' := (upd (upd (stab [(0, .lst true none (List.map (D.int .u8) l32))]) 0 none) 1 (some (.lst true none (List.map (D.int .u8) l36))))) (n' := 2) (st_app (xs := l32) (ys := r35) (e := (D.int .u8)) hl36 rfl rfl rfl (src_v (xs := r35) (e := (D.int .u8)) rfl)) ?_
    refine step (v := .d (.str (strOfB l36))) (st_b2sL (xs := l36) rfl rfl rfl) ?_
    refine step (v := .d (.str (strOfB l36))) rfl ?_
    exact RunOps.nil' (Norm.mk [] (by decide) (by decide) (by decide) ⟨.d _, trivial⟩ trivial)
  have hh := Option.some.inj h
  subst hh
  refine NWp.ret ?_
  show FQ _ _ _ _
  exact FQ.mk1 (.inr rfl) (res_t (v := .d (.str (strOfB l36))) rfl rfl) (RV.d trivial)

theorem c_ref03_Decode {a0 : ByteArray} {r : (api_Frame × Bool)} (h : ref03_Decode a0 = some r) : PCall Try.prog 24 [.str a0] (.tup [eapi_Frame r.1, .bool r.2]) := by
  refine PCall.introN ok24 (show 1 ≤ 58 by decide) ?_
  refine NWp.norm (s0 := ⟨tab [(0, .d (.str a0))], stab [], 0⟩) (Norm.mk [] (by decide) (by decide) (by decide) ⟨.d _, trivial⟩ trivial) ?_
  refine NWp.opsJ ⟨tab [(0, .d (.str a0)), (2, .ptr 0 0 0)], stab [(0, .var [.d (.int .u16 0), .d (.int .u16 0), .d (.int .u16 0), .d (.int .u16 0), .d (.int .u16 0), .d (.int .u16 0), .d (.int .u16 0), .d (.int .u16 0), .d (.bool false), .d (.int .u16 0), .d (.int .u64 0)])], 1⟩ ?_ ?_
  · refine step (v := .ptr 0 0 0) (σ' := (upd (stab []) 0 (some (.var [.d (.int .u16 0), .d (.int .u16 0), .d (.int .u16 0), .d (.int .u16 0), .d (.int .u16 0), .d (.int .u16 0), .d (.int .u16 0), .d (.int .u16 0), .d (.bool false), .d (.int .u16 0), .d (.int .u64 0)])))) (n' := 1) rfl ?_
    refine step (v := .d (.bool false)) rfl ?_
    exact RunOps.nil' (Norm.mk [0] (by decide) (by decide) (by decide) ⟨.d _, .ptr 0 _ _ (show 0 < 1 by decide), trivial⟩ ⟨⟨show 0 < 1 by decide, _, rfl, .vars ⟨.d _, .d _, .d _, .d _, .d _, .d _, .d _, .d _, .d _, .d _, .d _, trivial⟩⟩, trivial⟩)
  refine NWp.opsJ ⟨tab [(0, .d (.str a0)), (2, .ptr 0 0 0), (4, .ptr 1 0 0)], stab [(0, .var [.d (.int .u16 0), .d (.int .u16 0), .d (.int .u16 0), .d (.int .u16 0), .d (.int .u16 0), .d (.int .u16 0), .d (.int .u16 0), .d (.int .u16 0), .d (.bool false), .d (.int .u16 0), .d (.int .u64 0)]), (1, .var [.d (.int .u16 0), .d (.int .u16 0), .d (.int .u16 0), .d (.int .u16 0), .d (.int .u16 0), .d (.int .u16 0), .d (.int .u16 0), .d (.int .u16 0), .d (.bool false), .d (.int .u16 0), .d (.int .u64 0)])], 2⟩ ?_ ?_
  · refine step (v := .d (eapi_Frame (api_Frame.mk (A8.mk 0 0 0 0 0 0 0 0) false 0 0))) (st_build (ds := [.int .u16 0, .int .u16 0, .int .u16 0, .int .u16 0, .int .u16 0, .int .u16 0, .int .u16 0, .int .u16 0, .bool false, .int .u16 0, .int .u64 0]) rfl) ?_
    refine step (v := .ptr 1 0 0) (σ' := (upd (stab [(0, .var [.d (.int .u16 0), .d (.int .u16 0), .d (.int .u16 0), .d (.int .u16 0), .d (.int .u16 0), .d (.int .u16 0), .d (.int .u16 0), .d (.int .u16 0), .d (.bool false), .d (.int .u16 0), .d (.int .u64 0)])]) 1 (some (.var [.d (.int .u16 0), .d (.int .u16 0), .d (.int .u16 0), .d (.int .u16 0), .d (.int .u16 0), .d (.int .u16 0), .d (.int .u16 0), .d (.int .u16 0), .d (.bool false), .d (.int .u16 0), .d (.int .u64 0)])))) (n' := 2) rfl ?_
    refine step (v := V.undef) (σ' := (upd (upd (stab [(0, .var [.d (.int .u16 0), .d (.int .u16 0), .d (.int .u16 0), .d (.int .u16 0), .d (.int .u16 0), .d (.int .u16 0), .d (.int .u16 0), .d (.int .u16 0), .d (.bool false), .d (.int .u16 0), .d (.int .u64 0)])]) 1 (some (.var [.d (.int .u16 0), .d (.int .u16 0), .d (.int .u16 0), .d (.int .u16 0), .d (.int .u16 0), .d (.int .u16 0), .d (.int .u16 0), .d (.int .u16 0), .d (.bool false), .d (.int .u16 0), .d (.int .u64 0)]))) 1 (some (.var [.d (.int .u16 0), .d (.int .u16 0), .d (.int .u16 0), .d (.int .u16 0), .d (.int .u16 0), .d (.int .u16 0), .d (.int .u16 0), .d (.int .u16 0), .d (.bool false), .d (.int .u16 0), .d (.int .u64 0)])))) (n' := 2) rfl ?_
    exact RunOps.nil' (Norm.mk [0, 1] (by decide) (by decide) (by decide) ⟨.d _, .ptr 0 _ _ (show 0 < 2 by decide), .ptr 1 _ _ (show 1 < 2 by decide), trivial⟩ ⟨⟨show 0 < 2 by decide, _, rfl, .vars ⟨.d _, .d _, .d _, .d _, .d _, .d _, .d _, .d _, .d _, .d _, .d _, trivial⟩⟩, ⟨show 1 < 2 by decide, _, rfl, .vars ⟨.d _, .d _, .d _, .d _, .d _, .d _, .d _, .d _, .d _, .d _, .d _, trivial⟩⟩, trivial⟩)
  refine NWp.seq ?_
  refine NWp.opsJ ⟨tab [(0, .d (.str a0)), (2, .ptr 0 0 0), (4, .ptr 1 0 0), (16, .d (.bool (((a0.size : Int) != 16) && ((a0.size : Int) != 26))))], stab [(0, .var [.d (.int .u16 0), .d (.int .u16 0), .d (.int .u16 0), .d (.int .u16 0), .d (.int .u16 0), .d (.int .u16 0), .d (.int .u16 0), .d (.int .u16 0), .d (.bool false), .d (.int .u16 0), .d (.int .u64 0)]), (1, .var [.d (.int .u16 0), .d (.int .u16 0), .d (.int .u16 0), .d (.int .u16 0), .d (.int .u16 0), .d (.int .u16 0), .d (.int .u16 0), .d (.int .u16 0), .d (.bool false), .d (.int .u16 0), .d (.int .u64 0)])], 2⟩ ?_ ?_
  · refine step (v := .d (.str a0)) rfl ?_
    refine step (v := .d (.int .i64 (a0.size : Int))) rfl ?_
    refine step (v := .d (.bool ((a0.size : Int) != 16))) rfl ?_
    refine step (v := .d (.bool ((a0.size : Int) != 16))) rfl ?_
    by_cases hg1 : ((a0.size : Int) != 16) = true
    · refine stepG (c := ((a0.size : Int) != 16)) rfl hg1 ?_
      refine step (v := .d (.str a0)) rfl ?_
      refine stepG (c := ((a0.size : Int) != 16)) rfl hg1 ?_
      refine step (v := .d (.int .i64 (a0.size : Int))) rfl ?_
      refine stepG (c := ((a0.size : Int) != 16)) rfl hg1 ?_
      refine step (v := .d (.bool ((a0.size : Int) != 26))) rfl ?_
      refine step (v := .d (.bool ((a0.size : Int) != 26))) (st_pickT (b := ((a0.size : Int) != 16)) rfl hg1 rfl) ?_
      exact RunOps.nil' (Norm.mk [0, 1] (by decide) (by decide) (by decide) ⟨.d _, .ptr 0 _ _ (show 0 < 2 by decide), .ptr 1 _ _ (show 1 < 2 by decide), .eq (by simp [hg1]), trivial⟩ ⟨⟨show 0 < 2 by decide, _, rfl, .vars ⟨.d _, .d _, .d _, .d _, .d _, .d _, .d _, .d _, .d _, .d _, .d _, trivial⟩⟩, ⟨show 1 < 2 by decide, _, rfl, .vars ⟨.d _, .d _, .d _, .d _, .d _, .d _, .d _, .d _, .d _, .d _, .d _, trivial⟩⟩, trivial⟩)
    · refine stepX (c := ((a0.size : Int) != 16)) rfl hg1 ?_
      refine stepX (c := ((a0.size : Int) != 16)) rfl hg1 ?_
      refine stepX (c := ((a0.size : Int) != 16)) rfl hg1 ?_
      refine step (v := .d (.bool false)) (st_pickF (b := ((a0.size : Int) != 16)) rfl hg1 rfl) ?_
      exact RunOps.nil' (Norm.mk [0, 1] (by decide) (by decide) (by decide) ⟨.d _, .ptr 0 _ _ (show 0 < 2 by decide), .ptr 1 _ _ (show 1 < 2 by decide), .eq (by simp [hg1]), trivial⟩ ⟨⟨show 0 < 2 by decide, _, rfl, .vars ⟨.d _, .d _, .d _, .d _, .d _, .d _, .d _, .d _, .d _, .d _, .d _, trivial⟩⟩, ⟨show 1 < 2 by decide, _, rfl, .vars ⟨.d _, .d _, .d _, .d _, .d _, .d _, .d _, .d _, .d _, .d _, .d _, trivial⟩⟩, trivial⟩)
  by_cases hc2 : (((a0.size : Int) != 16) && ((a0.size : Int) != 26)) = true
  · replace h := iteT hc2 h
    refine NWp.condT (t := (((a0.size : Int) != 16) && ((a0.size : Int) != 26))) rfl hc2 ?_
    refine NWp.opsJ ⟨tab [(2, .ptr 0 0 0), (3, .d (.bool false))], stab [(0, .var [.d (.int .u16 0), .d (.int .u16 0), .d (.int .u16 0), .d (.int .u16 0), .d (.int .u16 0), .d (.int .u16 0), .d (.int .u16 0), .d (.int .u16 0), .d (.bool false), .d (.int .u16 0), .d (.int .u64 0)])], 1⟩ ?_ ?_
    · refine step (v := .d (eapi_Frame (api_Frame.mk (A8.mk 0 0 0 0 0 0 0 0) false 0 0))) (st_ldV (ds := [.int .u16 0, .int .u16 0, .int .u16 0, .int .u16 0, .int .u16 0, .int .u16 0, .int .u16 0, .int .u16 0, .bool false, .int .u16 0, .int .u64 0]) rfl rfl (show 11 ≤ 11 by decide) rfl) ?_
      refine step (v := V.undef) (σ' := (upd (stab [(0, .var [.d (.int .u16 0), .d (.int .u16 0), .d (.int .u16 0), .d (.int .u16 0), .d (.int .u16 0), .d (.int .u16 0), .d (.int .u16 0), .d (.int .u16 0), .d (.bool false), .d (.int .u16 0), .d (.int .u64 0)]), (1, .var [.d (.int .u16 0), .d (.int .u16 0), .d (.int .u16 0), .d (.int .u16 0), .d (.int .u16 0), .d (.int .u16 0), .d (.int .u16 0), .d (.int .u16 0), .d (.bool false), .d (.int .u16 0), .d (.int .u64 0)])]) 0 (some (.var [.d (.int .u16 0), .d (.int .u16 0), .d (.int .u16 0), .d (.int .u16 0), .d (.int .u16 0), .d (.int .u16 0), .d (.int .u16 0), .d (.int .u16 0), .d (.bool false), .d (.int .u16 0), .d (.int .u64 0)])))) (n' := 2) rfl ?_
      refine step (v := .d (.bool false)) rfl ?_
      exact RunOps.nil' (Norm.mk [0] (by decide) (by decide) (by decide) ⟨.ptr 0 _ _ (show 0 < 1 by decide), .d _, trivial⟩ ⟨⟨show 0 < 1 by decide, _, rfl, .vars ⟨.d _, .d _, .d _, .d _, .d _, .d _, .d _, .d _, .d _, .d _, .d _, trivial⟩⟩, trivial⟩)
    have hh := Option.some.inj h
    subst hh
    refine NWp.ret ?_
    show FQ _ _ _ _
    exact FQ.mkT (.inr rfl) (res_cell (ds := [.int .u16 0, .int .u16 0, .int .u16 0, .int .u16 0, .int .u16 0, .int .u16 0, .int .u16 0, .int .u16 0, .bool false, .int .u16 0, .int .u64 0]) rfl rfl (show 11 ≤ 11 by decide) rfl (res_t (v := .d (.bool false)) rfl rfl)) (RV.d (RV.d trivial))
  · replace h := iteF hc2 h
    refine NWp.condF (t := (((a0.size : Int) != 16) && ((a0.size : Int) != 26))) rfl hc2 ?_
    refine NWp.skip ?_
    refine NWp.opsJ ⟨tab [(0, .d (.str a0)), (2, .ptr 0 0 0), (4, .ptr 1 0 0), (5, .ptr 2 0 0)], stab [(0, .var [.d (.int .u16 0), .d (.int .u16 0), .d (.int .u16 0), .d (.int .u16 0), .d (.int .u16 0), .d (.int .u16 0), .d (.int .u16 0), .d (.int .u16 0), .d (.bool false), .d (.int .u16 0), .d (.int .u64 0)]), (1, .var [.d (.int .u16 0), .d (.int .u16 0), .d (.int .u16 0), .d (.int .u16 0), .d (.int .u16 0), .d (.int .u16 0), .d (.int .u16 0), .d (.int .u16 0), .d (.bool false), .d (.int .u16 0), .d (.int .u64 0)]), (2, .var [.d (.int .u16 0), .d (.int .u16 0), .d (.int .u16 0), .d (.int .u16 0), .d (.int .u16 0), .d (.int .u16 0), .d (.int .u16 0), .d (.int .u16 0), .d (.bool ((a0.size : Int) == 26)), .d (.int .u16 0), .d (.int .u64 0)])], 3⟩ ?_ ?_
    · refine step (v := .d (.str a0)) rfl ?_
      refine step (v := .d (.int .i64 (a0.size : Int))) rfl ?_
      refine step (v := .d (.bool ((a0.size : Int) == 26))) rfl ?_
      refine step (v := .d (eapi_Frame (api_Frame.mk (A8.mk 0 0 0 0 0 0 0 0) ((a0.size : Int) == 26) 0 0))) (st_build (ds := [.int .u16 0, .int .u16 0, .int .u16 0, .int .u16 0, .int .u16 0, .int .u16 0, .int .u16 0, .int .u16 0, .bool ((a0.size : Int) == 26), .int .u16 0, .int .u64 0]) rfl) ?_
      refine step (v := .ptr 2 0 0) (σ' := (upd (stab [(0, .var [.d (.int .u16 0), .d (.int .u16 0), .d (.int .u16 0), .d (.int .u16 0), .d (.int .u16 0), .d (.int .u16 0), .d (.int .u16 0), .d (.int .u16 0), .d (.bool false), .d (.int .u16 0), .d (.int .u64 0)]), (1, .var [.d (.int .u16 0), .d (.int .u16 0), .d (.int .u16 0), .d (.int .u16 0), .d (.int .u16 0), .d (.int .u16 0), .d (.int .u16 0), .d (.int .u16 0), .d (.bool false), .d (.int .u16 0), .d (.int .u64 0)])]) 2 (some (.var [.d (.int .u16 0), .d (.int .u16 0), .d (.int .u16 0), .d (.int .u16 0), .d (.int .u16 0), .d (.int .u16 0), .d (.int .u16 0), .d (.int .u16 0), .d (.bool false), .d (.int .u16 0), .d (.int .u64 0)])))) (n' := 3) rfl ?_
      refine step (v := V.undef) (σ' := (upd (upd (stab [(0, .var [.d (.int .u16 0), .d (.int .u16 0), .d (.int .u16 0), .d (.int .u16 0), .d (.int .u16 0), .d (.int .u16 0), .d (.int .u16 0), .d (.int .u16 0), .d (.bool false), .d (.int .u16 0), .d (.int .u64 0)]), (1, .var [.d (.int .u16 0), .d (.int .u16 0), .d (.int .u16 0), .d (.int .u16 0), .d (.int .u16 0), .d (.int .u16 0), .d (.int .u16 0), .d (.int .u16 0), .d (.bool false), .d (.int .u16 0), .d (.int .u64 0)])]) 2 (some (.var [.d (.int .u16 0), .d (.int .u16 0), .d (.int .u16 0), .d (.int .u16 0), .d (.int .u16 0), .d (.int .u16 0), .d (.int .u16 0), .d (.int .u16 0), .d (.bool false), .d (.int .u16 0), .d (.int .u64 0)]))) 2 (some (.var [.d (.int .u16 0), .d (.int .u16 0), .d (.int .u16 0), .d (.int .u16 0), .d (.int .u16 0), .d (.int .u16 0), .d (.int .u16 0), .d (.int .u16 0), .d (.bool ((a0.size : Int) == 26)), .d (.int .u16 0), .d (.int .u64 0)])))) (n' := 3) rfl ?_
      exact RunOps.nil' (Norm.mk [0, 1, 2] (by decide) (by decide) (by decide) ⟨.d _, .ptr 0 _ _ (show 0 < 3 by decide), .ptr 1 _ _ (show 1 < 3 by decide), .ptr 2 _ _ (show 2 < 3 by decide), trivial⟩ ⟨⟨show 0 < 3 by decide, _, rfl, .vars ⟨.d _, .d _, .d _, .d _, .d _, .d _, .d _, .d _, .d _, .d _, .d _, trivial⟩⟩, ⟨show 1 < 3 by decide, _, rfl, .vars ⟨.d _, .d _, .d _, .d _, .d _, .d _, .d _, .d _, .d _, .d _, .d _, trivial⟩⟩, ⟨show 2 < 3 by decide, _, rfl, .vars ⟨.d _, .d _, .d _, .d _, .d _, .d _, .d _, .d _, .d _, .d _, .d _, trivial⟩⟩, trivial⟩)
    refine NWp.seq ?_
    refine NWp.opsJ ⟨tab [(0, .d (.str a0)), (2, .ptr 0 0 0), (4, .ptr 1 0 0), (5, .ptr 2 0 0), (6, .d (.int .i64 2))], stab [(0, .var [.d (.int .u16 0), .d (.int .u16 0), .d (.int .u16 0), .d (.int .u16 0), .d (.int .u16 0), .d (.int .u16 0), .d (.int .u16 0), .d (.int .u16 0), .d (.bool false), .d (.int .u16 0), .d (.int .u64 0)]), (1, .var [.d (.int .u16 0), .d (.int .u16 0), .d (.int .u16 0), .d (.int .u16 0), .d (.int .u16 0), .d (.int .u16 0), .d (.int .u16 0), .d (.int .u16 0), .d (.bool false), .d (.int .u16 0), .d (.int .u64 0)]), (2, .var [.d (.int .u16 0), .d (.int .u16 0), .d (.int .u16 0), .d (.int .u16 0), .d (.int .u16 0), .d (.int .u16 0), .d (.int .u16 0), .d (.int .u16 0), .d (.bool ((a0.size : Int) == 26)), .d (.int .u16 0), .d (.int .u64 0)])], 3⟩ ?_ ?_
    · refine step (v := .d (.int .i64 2)) rfl ?_
      exact RunOps.nil' (Norm.mk [0, 1, 2] (by decide) (by decide) (by decide) ⟨.d _, .ptr 0 _ _ (show 0 < 3 by decide), .ptr 1 _ _ (show 1 < 3 by decide), .ptr 2 _ _ (show 2 < 3 by decide), .d _, trivial⟩ ⟨⟨show 0 < 3 by decide, _, rfl, .vars ⟨.d _, .d _, .d _, .d _, .d _, .d _, .d _, .d _, .d _, .d _, .d _, trivial⟩⟩, ⟨show 1 < 3 by decide, _, rfl, .vars ⟨.d _, .d _, .d _, .d _, .d _, .d _, .d _, .d _, .d _, .d _, .d _, trivial⟩⟩, ⟨show 2 < 3 by decide, _, rfl, .vars ⟨.d _, .d _, .d _, .d _, .d _, .d _, .d _, .d _, .d _, .d _, .d _, trivial⟩⟩, trivial⟩)
    obtain ⟨z13, hl, h⟩ := bindE h
    refine NWp.norm (s0 := ⟨tab [(0, .d (.str a0)), (2, .ptr 0 0 0), (4, .ptr 1 0 0), (5, .ptr 2 0 0), (6, .d (.int .i64 2))], stab [(0, .var [.d (.int .u16 0), .d (.int .u16 0), .d (.int .u16 0), .d (.int .u16 0), .d (.int .u16 0), .d (.int .u16 0), .d (.int .u16 0), .d (.int .u16 0), .d (.bool false), .d (.int .u16 0), .d (.int .u64 0)]), (1, .var [.d (.int .u16 0), .d (.int .u16 0), .d (.int .u16 0), .d (.int .u16 0), .d (.int .u16 0), .d (.int .u16 0), .d (.int .u16 0), .d (.int .u16 0), .d (.bool false), .d (.int .u16 0), .d (.int .u64 0)]), (2, .var [.d (.int .u16 ((api_Frame.mk (A8.mk 0 0 0 0 0 0 0 0) ((a0.size : Int) == 26) 0 0).P.a0)), .d (.int .u16 ((api_Frame.mk (A8.mk 0 0 0 0 0 0 0 0) ((a0.size : Int) == 26) 0 0).P.a1)), .d (.int .u16 ((api_Frame.mk (A8.mk 0 0 0 0 0 0 0 0) ((a0.size : Int) == 26) 0 0).P.a2)), .d (.int .u16 ((api_Frame.mk (A8.mk 0 0 0 0 0 0 0 0) ((a0.size : Int) == 26) 0 0).P.a3)), .d (.int .u16 ((api_Frame.mk (A8.mk 0 0 0 0 0 0 0 0) ((a0.size : Int) == 26) 0 0).P.a4)), .d (.int .u16 ((api_Frame.mk (A8.mk 0 0 0 0 0 0 0 0) ((a0.size : Int) == 26) 0 0).P.a5)), .d (.int .u16 ((api_Frame.mk (A8.mk 0 0 0 0 0 0 0 0) ((a0.size : Int) == 26) 0 0).P.a6)), .d (.int .u16 ((api_Frame.mk (A8.mk 0 0 0 0 0 0 0 0) ((a0.size : Int) == 26) 0 0).P.a7)), .d (.bool ((api_Frame.mk (A8.mk 0 0 0 0 0 0 0 0) ((a0.size : Int) == 26) 0 0).Tagged)), .d (.int .u16 ((api_Frame.mk (A8.mk 0 0 0 0 0 0 0 0) ((a0.size : Int) == 26) 0 0).Tag)), .d (.int .u64 ((api_Frame.mk (A8.mk 0 0 0 0 0 0 0 0) ((a0.size : Int) == 26) 0 0).Digest))])], 3⟩) (Norm.mk [0, 1, 2] (by decide) (by decide) (by decide) ⟨.d _, .ptr 0 _ _ (show 0 < 3 by decide), .ptr 1 _ _ (show 1 < 3 by decide), .ptr 2 _ _ (show 2 < 3 by decide), .d _, trivial⟩ ⟨⟨show 0 < 3 by decide, _, rfl, .vars ⟨.d _, .d _, .d _, .d _, .d _, .d _, .d _, .d _, .d _, .d _, .d _, trivial⟩⟩, ⟨show 1 < 3 by decide, _, rfl, .vars ⟨.d _, .d _, .d _, .d _, .d _, .d _, .d _, .d _, .d _, .d _, .d _, trivial⟩⟩, ⟨show 2 < 3 by decide, _, rfl, .vars ⟨.d _, .d _, .d _, .d _, .d _, .d _, .d _, .d _, .d _, .d _, .d _, trivial⟩⟩, trivial⟩) ?_
    refine NWp.block ?_
    refine loop_forO (cntU 8) (fun (i3 : Int) (qq : api_Frame) => ⟨tab [(0, .d (.str a0)), (2, .ptr 0 0 0), (4, .ptr 1 0 0), (5, .ptr 2 0 0), (6, .d (.int .i64 i3))], stab [(0, .var [.d (.int .u16 0), .d (.int .u16 0), .d (.int .u16 0), .d (.int .u16 0), .d (.int .u16 0), .d (.int .u16 0), .d (.int .u16 0), .d (.int .u16 0), .d (.bool false), .d (.int .u16 0), .d (.int .u64 0)]), (1, .var [.d (.int .u16 0), .d (.int .u16 0), .d (.int .u16 0), .d (.int .u16 0), .d (.int .u16 0), .d (.int .u16 0), .d (.int .u16 0), .d (.int .u16 0), .d (.bool false), .d (.int .u16 0), .d (.int .u64 0)]), (2, .var [.d (.int .u16 qq.P.a0), .d (.int .u16 qq.P.a1), .d (.int .u16 qq.P.a2), .d (.int .u16 qq.P.a3), .d (.int .u16 qq.P.a4), .d (.int .u16 qq.P.a5), .d (.int .u16 qq.P.a6), .d (.int .u16 qq.P.a7), .d (.bool qq.Tagged), .d (.int .u16 qq.Tag), .d (.int .u64 qq.Digest)])], 3⟩) 0 (fun (qq : api_Frame) => ⟨tab [(0, .d (.str a0)), (2, .ptr 0 0 0), (4, .ptr 1 0 0), (5, .ptr 2 0 0)], stab [(0, .var [.d (.int .u16 0), .d (.int .u16 0), .d (.int .u16 0), .d (.int .u16 0), .d (.int .u16 0), .d (.int .u16 0), .d (.int .u16 0), .d (.int .u16 0), .d (.bool false), .d (.int .u16 0), .d (.int .u64 0)]), (1, .var [.d (.int .u16 0), .d (.int .u16 0), .d (.int .u16 0), .d (.int .u16 0), .d (.int .u16 0), .d (.int .u16 0), .d (.int .u16 0), .d (.int .u16 0), .d (.bool false), .d (.int .u16 0), .d (.int .u64 0)]), (2, .var [.d (.int .u16 qq.P.a0), .d (.int .u16 qq.P.a1), .d (.int .u16 qq.P.a2), .d (.int .u16 qq.P.a3), .d (.int .u16 qq.P.a4), .d (.int .u16 qq.P.a5), .d (.int .u16 qq.P.a6), .d (.int .u16 qq.P.a7), .d (.bool qq.Tagged), .d (.int .u16 qq.Tag), .d (.int .u64 qq.Digest)])], 3⟩) Low low_step hl (by unfold Low; omega) ?_ ?_ ?_
    · rintro i3 y4 xr9 hinv7 hgo6 h
      show NWp _ _ _ _ _ ⟨tab [(0, .d (.str a0)), (2, .ptr 0 0 0), (4, .ptr 1 0 0), (5, .ptr 2 0 0), (6, .d (.int .i64 i3))], stab [(0, .var [.d (.int .u16 0), .d (.int .u16 0), .d (.int .u16 0), .d (.int .u16 0), .d (.int .u16 0), .d (.int .u16 0), .d (.int .u16 0), .d (.int .u16 0), .d (.bool false), .d (.int .u16 0), .d (.int .u64 0)]), (1, .var [.d (.int .u16 0), .d (.int .u16 0), .d (.int .u16 0), .d (.int .u16 0), .d (.int .u16 0), .d (.int .u16 0), .d (.int .u16 0), .d (.int .u16 0), .d (.bool false), .d (.int .u16 0), .d (.int .u64 0)]), (2, .var [.d (.int .u16 y4.P.a0), .d (.int .u16 y4.P.a1), .d (.int .u16 y4.P.a2), .d (.int .u16 y4.P.a3), .d (.int .u16 y4.P.a4), .d (.int .u16 y4.P.a5), .d (.int .u16 y4.P.a6), .d (.int .u16 y4.P.a7), .d (.bool y4.Tagged), .d (.int .u16 y4.Tag), .d (.int .u64 y4.Digest)])], 3⟩
      have hc8 : decide (i3 < 8) = true := decide_eq_true hgo6
      refine NWp.seq ?_
      refine NWp.opsJ ⟨tab [(0, .d (.str a0)), (2, .ptr 0 0 0), (4, .ptr 1 0 0), (5, .ptr 2 0 0), (6, .d (.int .i64 i3)), (23, .d (.bool (decide (i3 < 8))))], stab [(0, .var [.d (.int .u16 0), .d (.int .u16 0), .d (.int .u16 0), .d (.int .u16 0), .d (.int .u16 0), .d (.int .u16 0), .d (.int .u16 0), .d (.int .u16 0), .d (.bool false), .d (.int .u16 0), .d (.int .u64 0)]), (1, .var [.d (.int .u16 0), .d (.int .u16 0), .d (.int .u16 0), .d (.int .u16 0), .d (.int .u16 0), .d (.int .u16 0), .d (.int .u16 0), .d (.int .u16 0), .d (.bool false), .d (.int .u16 0), .d (.int .u64 0)]), (2, .var [.d (.int .u16 y4.P.a0), .d (.int .u16 y4.P.a1), .d (.int .u16 y4.P.a2), .d (.int .u16 y4.P.a3), .d (.int .u16 y4.P.a4), .d (.int .u16 y4.P.a5), .d (.int .u16 y4.P.a6), .d (.int .u16 y4.P.a7), .d (.bool y4.Tagged), .d (.int .u16 y4.Tag), .d (.int .u64 y4.Digest)])], 3⟩ ?_ ?_
      · refine step (v := .d (.int .i64 i3)) rfl ?_
        refine step (v := .d (.bool (decide (i3 < 8)))) rfl ?_
        exact RunOps.nil' (Norm.mk [0, 1, 2] (by decide) (by decide) (by decide) ⟨.d _, .ptr 0 _ _ (show 0 < 3 by decide), .ptr 1 _ _ (show 1 < 3 by decide), .ptr 2 _ _ (show 2 < 3 by decide), .d _, .d _, trivial⟩ ⟨⟨show 0 < 3 by decide, _, rfl, .vars ⟨.d _, .d _, .d _, .d _, .d _, .d _, .d _, .d _, .d _, .d _, .d _, trivial⟩⟩, ⟨show 1 < 3 by decide, _, rfl, .vars ⟨.d _, .d _, .d _, .d _, .d _, .d _, .d _, .d _, .d _, .d _, .d _, trivial⟩⟩, ⟨show 2 < 3 by decide, _, rfl, .vars ⟨.d _, .d _, .d _, .d _, .d _, .d _, .d _, .d _, .d _, .d _, .d _, trivial⟩⟩, trivial⟩)
      refine NWp.condT (t := decide (i3 < 8)) rfl hc8 ?_
      refine NWp.skip ?_
      refine NWp.seq ?_
      refine NWp.block ?_
      obtain ⟨r10, hr10, h⟩ := bindE h
      obtain ⟨x11, hx11, h⟩ := bindE h
      obtain ⟨x12, hx12, h⟩ := bindE h
      refine NWp.opsE ⟨tab [(0, .d (.str a0)), (2, .ptr 0 0 0), (4, .ptr 1 0 0), (5, .ptr 2 0 0), (6, .d (.int .i64 i3))], stab [(0, .var [.d (.int .u16 0), .d (.int .u16 0), .d (.int .u16 0), .d (.int .u16 0), .d (.int .u16 0), .d (.int .u16 0), .d (.int .u16 0), .d (.int .u16 0), .d (.bool false), .d (.int .u16 0), .d (.int .u64 0)]), (1, .var [.d (.int .u16 0), .d (.int .u16 0), .d (.int .u16 0), .d (.int .u16 0), .d (.int .u16 0), .d (.int .u16 0), .d (.int .u16 0), .d (.int .u16 0), .d (.bool false), .d (.int .u16 0), .d (.int .u64 0)]), (2, .var [.d (.int .u16 x12.a0), .d (.int .u16 x12.a1), .d (.int .u16 x12.a2), .d (.int .u16 x12.a3), .d (.int .u16 x12.a4), .d (.int .u16 x12.a5), .d (.int .u16 x12.a6), .d (.int .u16 x12.a7), .d (.bool y4.Tagged), .d (.int .u16 y4.Tag), .d (.int .u64 y4.Digest)])], 3⟩ ?_ ?_
      · refine step (v := .d (.int .i64 i3)) rfl ?_
        refine step (v := .d (.str a0)) rfl ?_
        refine step (v := .d (.int .i64 i3)) rfl ?_
        refine step (v := .d (.int .i64 (IntKind.i64.wrap (2 * i3)))) rfl ?_
        refine step (v := .d (.int .i64 (IntKind.i64.wrap ((IntKind.i64.wrap (2 * i3)) - 2)))) rfl ?_
        refine stepC (r := .int .u16 r10) (ArgsOk.dt (ArgsOk.dt ArgsOk.nil')) (c_ref03_number hr10) ?_
        refine step (v := .ptr 2 0 0) rfl ?_
        refine step (v := .ptr 2 0 (0 + i3.toNat * 1)) (st_iaddrAP (xs := y4.P.l) hx11 rfl rfl rfl) ?_
        refine step (v := V.undef) (σ' := (upd (stab [(0, .var [.d (.int .u16 0), .d (.int .u16 0), .d (.int .u16 0), .d (.int .u16 0), .d (.int .u16 0), .d (.int .u16 0), .d (.int .u16 0), .d (.int .u16 0), .d (.bool false), .d (.int .u16 0), .d (.int .u64 0)]), (1, .var [.d (.int .u16 0), .d (.int .u16 0), .d (.int .u16 0), .d (.int .u16 0), .d (.int .u16 0), .d (.int .u16 0), .d (.int .u16 0), .d (.int .u16 0), .d (.bool false), .d (.int .u16 0), .d (.int .u64 0)]), (2, .var [.d (.int .u16 y4.P.a0), .d (.int .u16 y4.P.a1), .d (.int .u16 y4.P.a2), .d (.int .u16 y4.P.a3), .d (.int .u16 y4.P.a4), .d (.int .u16 y4.P.a5), .d (.int .u16 y4.P.a6), .d (.int .u16 y4.P.a7), .d (.bool y4.Tagged), .d (.int .u16 y4.Tag), .d (.int .u64 y4.Digest)])]) 2 (some (.var [.d (.int .u16 x12.a0), .d (.int .u16 x12.a1), .d (.int .u16 x12.a2), .d (.int .u16 x12.a3), .d (.int .u16 x12.a4), .d (.int .u16 x12.a5), .d (.int .u16 x12.a6), .d (.int .u16 x12.a7), .d (.bool y4.Tagged), .d (.int .u16 y4.Tag), .d (.int .u64 y4.Digest)])))) (n' := 3) (st_storeA (e := (D.int .u16)) (xs := y4.P.l) (xs' := x12.l) (pre := []) (post := [.d (.bool y4.Tagged), .d (.int .u16 y4.Tag), .d (.int .u64 y4.Digest)]) (A8.put_l hx12) rfl rfl rfl rfl rfl rfl) ?_
        exact RunOps.nil' (Norm.mk [0, 1, 2] (by decide) (by decide) (by decide) ⟨.d _, .ptr 0 _ _ (show 0 < 3 by decide), .ptr 1 _ _ (show 1 < 3 by decide), .ptr 2 _ _ (show 2 < 3 by decide), .d _, trivial⟩ ⟨⟨show 0 < 3 by decide, _, rfl, .vars ⟨.d _, .d _, .d _, .d _, .d _, .d _, .d _, .d _, .d _, .d _, .d _, trivial⟩⟩, ⟨show 1 < 3 by decide, _, rfl, .vars ⟨.d _, .d _, .d _, .d _, .d _, .d _, .d _, .d _, .d _, .d _, .d _, trivial⟩⟩, ⟨show 2 < 3 by decide, _, rfl, .vars ⟨.d _, .d _, .d _, .d _, .d _, .d _, .d _, .d _, .d _, .d _, .d _, trivial⟩⟩, trivial⟩)
      have hh := Option.some.inj h
      subst hh
      refine NWp.opsE ⟨tab [(0, .d (.str a0)), (2, .ptr 0 0 0), (4, .ptr 1 0 0), (5, .ptr 2 0 0), (6, .d (.int .i64 (i3 + 1)))], stab [(0, .var [.d (.int .u16 0), .d (.int .u16 0), .d (.int .u16 0), .d (.int .u16 0), .d (.int .u16 0), .d (.int .u16 0), .d (.int .u16 0), .d (.int .u16 0), .d (.bool false), .d (.int .u16 0), .d (.int .u64 0)]), (1, .var [.d (.int .u16 0), .d (.int .u16 0), .d (.int .u16 0), .d (.int .u16 0), .d (.int .u16 0), .d (.int .u16 0), .d (.int .u16 0), .d (.int .u16 0), .d (.bool false), .d (.int .u16 0), .d (.int .u64 0)]), (2, .var [.d (.int .u16 ((api_Frame.mk x12 y4.Tagged y4.Tag y4.Digest).P.a0)), .d (.int .u16 ((api_Frame.mk x12 y4.Tagged y4.Tag y4.Digest).P.a1)), .d (.int .u16 ((api_Frame.mk x12 y4.Tagged y4.Tag y4.Digest).P.a2)), .d (.int .u16 ((api_Frame.mk x12 y4.Tagged y4.Tag y4.Digest).P.a3)), .d (.int .u16 ((api_Frame.mk x12 y4.Tagged y4.Tag y4.Digest).P.a4)), .d (.int .u16 ((api_Frame.mk x12 y4.Tagged y4.Tag y4.Digest).P.a5)), .d (.int .u16 ((api_Frame.mk x12 y4.Tagged y4.Tag y4.Digest).P.a6)), .d (.int .u16 ((api_Frame.mk x12 y4.Tagged y4.Tag y4.Digest).P.a7)), .d (.bool ((api_Frame.mk x12 y4.Tagged y4.Tag y4.Digest).Tagged)), .d (.int .u16 ((api_Frame.mk x12 y4.Tagged y4.Tag y4.Digest).Tag)), .d (.int .u64 ((api_Frame.mk x12 y4.Tagged y4.Tag y4.Digest).Digest))])], 3⟩ ?_ ?_
      · refine step (v := .d (.int .i64 i3)) rfl ?_
        refine step (v := .d (.int .i64 (i3 + 1))) (st_inc (inc_ok hinv7 hgo6 (by decide)) rfl rfl) ?_
        refine step (v := .d (.int .i64 (i3 + 1))) rfl ?_
        exact RunOps.nil' (Norm.mk [0, 1, 2] (by decide) (by decide) (by decide) ⟨.d _, .ptr 0 _ _ (show 0 < 3 by decide), .ptr 1 _ _ (show 1 < 3 by decide), .ptr 2 _ _ (show 2 < 3 by decide), .d _, trivial⟩ ⟨⟨show 0 < 3 by decide, _, rfl, .vars ⟨.d _, .d _, .d _, .d _, .d _, .d _, .d _, .d _, .d _, .d _, .d _, trivial⟩⟩, ⟨show 1 < 3 by decide, _, rfl, .vars ⟨.d _, .d _, .d _, .d _, .d _, .d _, .d _, .d _, .d _, .d _, .d _, trivial⟩⟩, ⟨show 2 < 3 by decide, _, rfl, .vars ⟨.d _, .d _, .d _, .d _, .d _, .d _, .d _, .d _, .d _, .d _, .d _, trivial⟩⟩, trivial⟩)
      exact And.intro rfl rfl
    · rintro i3 y4 hinv7 hgo6
      show NWp _ _ _ _ _ ⟨tab [(0, .d (.str a0)), (2, .ptr 0 0 0), (4, .ptr 1 0 0), (5, .ptr 2 0 0), (6, .d (.int .i64 i3))], stab [(0, .var [.d (.int .u16 0), .d (.int .u16 0), .d (.int .u16 0), .d (.int .u16 0), .d (.int .u16 0), .d (.int .u16 0), .d (.int .u16 0), .d (.int .u16 0), .d (.bool false), .d (.int .u16 0), .d (.int .u64 0)]), (1, .var [.d (.int .u16 0), .d (.int .u16 0), .d (.int .u16 0), .d (.int .u16 0), .d (.int .u16 0), .d (.int .u16 0), .d (.int .u16 0), .d (.int .u16 0), .d (.bool false), .d (.int .u16 0), .d (.int .u64 0)]), (2, .var [.d (.int .u16 y4.P.a0), .d (.int .u16 y4.P.a1), .d (.int .u16 y4.P.a2), .d (.int .u16 y4.P.a3), .d (.int .u16 y4.P.a4), .d (.int .u16 y4.P.a5), .d (.int .u16 y4.P.a6), .d (.int .u16 y4.P.a7), .d (.bool y4.Tagged), .d (.int .u16 y4.Tag), .d (.int .u64 y4.Digest)])], 3⟩
      have hc8 : ¬ (decide (i3 < 8) = true) := fun hq => hgo6 (of_decide_eq_true hq)
      refine NWp.seq ?_
      refine NWp.opsJ ⟨tab [(0, .d (.str a0)), (2, .ptr 0 0 0), (4, .ptr 1 0 0), (5, .ptr 2 0 0), (6, .d (.int .i64 i3)), (23, .d (.bool (decide (i3 < 8))))], stab [(0, .var [.d (.int .u16 0), .d (.int .u16 0), .d (.int .u16 0), .d (.int .u16 0), .d (.int .u16 0), .d (.int .u16 0), .d (.int .u16 0), .d (.int .u16 0), .d (.bool false), .d (.int .u16 0), .d (.int .u64 0)]), (1, .var [.d (.int .u16 0), .d (.int .u16 0), .d (.int .u16 0), .d (.int .u16 0), .d (.int .u16 0), .d (.int .u16 0), .d (.int .u16 0), .d (.int .u16 0), .d (.bool false), .d (.int .u16 0), .d (.int .u64 0)]), (2, .var [.d (.int .u16 y4.P.a0), .d (.int .u16 y4.P.a1), .d (.int .u16 y4.P.a2), .d (.int .u16 y4.P.a3), .d (.int .u16 y4.P.a4), .d (.int .u16 y4.P.a5), .d (.int .u16 y4.P.a6), .d (.int .u16 y4.P.a7), .d (.bool y4.Tagged), .d (.int .u16 y4.Tag), .d (.int .u64 y4.Digest)])], 3⟩ ?_ ?_
      · refine step (v := .d (.int .i64 i3)) rfl ?_
        refine step (v := .d (.bool (decide (i3 < 8)))) rfl ?_
        exact RunOps.nil' (Norm.mk [0, 1, 2] (by decide) (by decide) (by decide) ⟨.d _, .ptr 0 _ _ (show 0 < 3 by decide), .ptr 1 _ _ (show 1 < 3 by decide), .ptr 2 _ _ (show 2 < 3 by decide), .d _, .d _, trivial⟩ ⟨⟨show 0 < 3 by decide, _, rfl, .vars ⟨.d _, .d _, .d _, .d _, .d _, .d _, .d _, .d _, .d _, .d _, .d _, trivial⟩⟩, ⟨show 1 < 3 by decide, _, rfl, .vars ⟨.d _, .d _, .d _, .d _, .d _, .d _, .d _, .d _, .d _, .d _, .d _, trivial⟩⟩, ⟨show 2 < 3 by decide, _, rfl, .vars ⟨.d _, .d _, .d _, .d _, .d _, .d _, .d _, .d _, .d _, .d _, .d _, trivial⟩⟩, trivial⟩)
      refine NWp.condF (t := decide (i3 < 8)) rfl hc8 ?_
      refine NWp.norm (s0 := ⟨tab [(0, .d (.str a0)), (2, .ptr 0 0 0), (4, .ptr 1 0 0), (5, .ptr 2 0 0)], stab [(0, .var [.d (.int .u16 0), .d (.int .u16 0), .d (.int .u16 0), .d (.int .u16 0), .d (.int .u16 0), .d (.int .u16 0), .d (.int .u16 0), .d (.int .u16 0), .d (.bool false), .d (.int .u16 0), .d (.int .u64 0)]), (1, .var [.d (.int .u16 0), .d (.int .u16 0), .d (.int .u16 0), .d (.int .u16 0), .d (.int .u16 0), .d (.int .u16 0), .d (.int .u16 0), .d (.int .u16 0), .d (.bool false), .d (.int .u16 0), .d (.int .u64 0)]), (2, .var [.d (.int .u16 y4.P.a0), .d (.int .u16 y4.P.a1), .d (.int .u16 y4.P.a2), .d (.int .u16 y4.P.a3), .d (.int .u16 y4.P.a4), .d (.int .u16 y4.P.a5), .d (.int .u16 y4.P.a6), .d (.int .u16 y4.P.a7), .d (.bool y4.Tagged), .d (.int .u16 y4.Tag), .d (.int .u64 y4.Digest)])], 3⟩) (Norm.mk [0, 1, 2] (by decide) (by decide) (by decide) ⟨.d _, .ptr 0 _ _ (show 0 < 3 by decide), .ptr 1 _ _ (show 1 < 3 by decide), .ptr 2 _ _ (show 2 < 3 by decide), trivial⟩ ⟨⟨show 0 < 3 by decide, _, rfl, .vars ⟨.d _, .d _, .d _, .d _, .d _, .d _, .d _, .d _, .d _, .d _, .d _, trivial⟩⟩, ⟨show 1 < 3 by decide, _, rfl, .vars ⟨.d _, .d _, .d _, .d _, .d _, .d _, .d _, .d _, .d _, .d _, .d _, trivial⟩⟩, ⟨show 2 < 3 by decide, _, rfl, .vars ⟨.d _, .d _, .d _, .d _, .d _, .d _, .d _, .d _, .d _, .d _, .d _, trivial⟩⟩, trivial⟩) ?_
      refine NWp.exit ?_
      exact And.intro rfl rfl
    obtain ⟨y26, hv, h⟩ := bindE h
    refine NWp.seqN ⟨tab [(0, .d (.str a0)), (2, .ptr 0 0 0), (4, .ptr 1 0 0), (5, .ptr 2 0 0)], stab [(0, .var [.d (.int .u16 0), .d (.int .u16 0), .d (.int .u16 0), .d (.int .u16 0), .d (.int .u16 0), .d (.int .u16 0), .d (.int .u16 0), .d (.int .u16 0), .d (.bool false), .d (.int .u16 0), .d (.int .u64 0)]), (1, .var [.d (.int .u16 0), .d (.int .u16 0), .d (.int .u16 0), .d (.int .u16 0), .d (.int .u16 0), .d (.int .u16 0), .d (.int .u16 0), .d (.int .u16 0), .d (.bool false), .d (.int .u16 0), .d (.int .u64 0)]), (2, .var [.d (.int .u16 y26.P.a0), .d (.int .u16 y26.P.a1), .d (.int .u16 y26.P.a2), .d (.int .u16 y26.P.a3), .d (.int .u16 y26.P.a4), .d (.int .u16 y26.P.a5), .d (.int .u16 y26.P.a6), .d (.int .u16 y26.P.a7), .d (.bool y26.Tagged), .d (.int .u16 y26.Tag), .d (.int .u64 y26.Digest)])], 3⟩ ?_ ?_
    · replace h := hv
      refine NWp.opsJ ⟨tab [(0, .d (.str a0)), (2, .ptr 0 0 0), (4, .ptr 1 0 0), (5, .ptr 2 0 0), (35, .d (.bool z13.Tagged))], stab [(0, .var [.d (.int .u16 0), .d (.int .u16 0), .d (.int .u16 0), .d (.int .u16 0), .d (.int .u16 0), .d (.int .u16 0), .d (.int .u16 0), .d (.int .u16 0), .d (.bool false), .d (.int .u16 0), .d (.int .u64 0)]), (1, .var [.d (.int .u16 0), .d (.int .u16 0), .d (.int .u16 0), .d (.int .u16 0), .d (.int .u16 0), .d (.int .u16 0), .d (.int .u16 0), .d (.int .u16 0), .d (.bool false), .d (.int .u16 0), .d (.int .u64 0)]), (2, .var [.d (.int .u16 z13.P.a0), .d (.int .u16 z13.P.a1), .d (.int .u16 z13.P.a2), .d (.int .u16 z13.P.a3), .d (.int .u16 z13.P.a4), .d (.int .u16 z13.P.a5), .d (.int .u16 z13.P.a6), .d (.int .u16 z13.P.a7), .d (.bool z13.Tagged), .d (.int .u16 z13.Tag), .d (.int .u64 z13.Digest)])], 3⟩ ?_ ?_
      · refine step (v := .ptr 2 0 8) rfl ?_
        refine step (v := .d (.bool z13.Tagged)) rfl ?_
        exact RunOps.nil' (Norm.mk [0, 1, 2] (by decide) (by decide) (by decide) ⟨.d _, .ptr 0 _ _ (show 0 < 3 by decide), .ptr 1 _ _ (show 1 < 3 by decide), .ptr 2 _ _ (show 2 < 3 by decide), .d _, trivial⟩ ⟨⟨show 0 < 3 by decide, _, rfl, .vars ⟨.d _, .d _, .d _, .d _, .d _, .d _, .d _, .d _, .d _, .d _, .d _, trivial⟩⟩, ⟨show 1 < 3 by decide, _, rfl, .vars ⟨.d _, .d _, .d _, .d _, .d _, .d _, .d _, .d _, .d _, .d _, .d _, trivial⟩⟩, ⟨show 2 < 3 by decide, _, rfl, .vars ⟨.d _, .d _, .d _, .d _, .d _, .d _, .d _, .d _, .d _, .d _, .d _, trivial⟩⟩, trivial⟩)
      by_cases hc14 : z13.Tagged = true
      · replace h := iteT hc14 h
        refine NWp.condT (t := z13.Tagged) rfl hc14 ?_
        obtain ⟨r15, hr15, h⟩ := bindE h
        refine NWp.opsJ ⟨tab [(0, .d (.str a0)), (2, .ptr 0 0 0), (4, .ptr 1 0 0), (5, .ptr 2 0 0)], stab [(0, .var [.d (.int .u16 0), .d (.int .u16 0), .d (.int .u16 0), .d (.int .u16 0), .d (.int .u16 0), .d (.int .u16 0), .d (.int .u16 0), .d (.int .u16 0), .d (.bool false), .d (.int .u16 0), .d (.int .u64 0)]), (1, .var [.d (.int .u16 0), .d (.int .u16 0), .d (.int .u16 0), .d (.int .u16 0), .d (.int .u16 0), .d (.int .u16 0), .d (.int .u16 0), .d (.int .u16 0), .d (.bool false), .d (.int .u16 0), .d (.int .u64 0)]), (2, .var [.d (.int .u16 z13.P.a0), .d (.int .u16 z13.P.a1), .d (.int .u16 z13.P.a2), .d (.int .u16 z13.P.a3), .d (.int .u16 z13.P.a4), .d (.int .u16 z13.P.a5), .d (.int .u16 z13.P.a6), .d (.int .u16 z13.P.a7), .d (.bool z13.Tagged), .d (.int .u16 r15), .d (.int .u64 z13.Digest)])], 3⟩ ?_ ?_
        · refine step (v := .d (.str a0)) rfl ?_
          refine stepC (r := .int .u16 r15) (ArgsOk.dt (ArgsOk.dt ArgsOk.nil')) (c_ref03_number hr15) ?_
          refine step (v := .ptr 2 0 9) rfl ?_
          refine step (v := V.undef) (σ' := (upd (stab [(0, .var [.d (.int .u16 0), .d (.int .u16 0), .d (.int .u16 0), .d (.int .u16 0), .d (.int .u16 0), .d (.int .u16 0), .d (.int .u16 0), .d (.int .u16 0), .d (.bool false), .d (.int .u16 0), .d (.int .u64 0)]), (1, .var [.d (.int .u16 0), .d (.int .u16 0), .d (.int .u16 0), .d (.int .u16 0), .d (.int .u16 0), .d (.int .u16 0), .d (.int .u16 0), .d (.int .u16 0), .d (.bool false), .d (.int .u16 0), .d (.int .u64 0)]), (2, .var [.d (.int .u16 z13.P.a0), .d (.int .u16 z13.P.a1), .d (.int .u16 z13.P.a2), .d (.int .u16 z13.P.a3), .d (.int .u16 z13.P.a4), .d (.int .u16 z13.P.a5), .d (.int .u16 z13.P.a6), .d (.int .u16 z13.P.a7), .d (.bool z13.Tagged), .d (.int .u16 z13.Tag), .d (.int .u64 z13.Digest)])]) 2 (some (.var [.d (.int .u16 z13.P.a0), .d (.int .u16 z13.P.a1), .d (.int .u16 z13.P.a2), .d (.int .u16 z13.P.a3), .d (.int .u16 z13.P.a4), .d (.int .u16 z13.P.a5), .d (.int .u16 z13.P.a6), .d (.int .u16 z13.P.a7), .d (.bool z13.Tagged), .d (.int .u16 r15), .d (.int .u64 z13.Digest)])))) (n' := 3) rfl ?_
          exact RunOps.nil' (Norm.mk [0, 1, 2] (by decide) (by decide) (by decide) ⟨.d _, .ptr 0 _ _ (show 0 < 3 by decide), .ptr 1 _ _ (show 1 < 3 by decide), .ptr 2 _ _ (show 2 < 3 by decide), trivial⟩ ⟨⟨show 0 < 3 by decide, _, rfl, .vars ⟨.d _, .d _, .d _, .d _, .d _, .d _, .d _, .d _, .d _, .d _, .d _, trivial⟩⟩, ⟨show 1 < 3 by decide, _, rfl, .vars ⟨.d _, .d _, .d _, .d _, .d _, .d _, .d _, .d _, .d _, .d _, .d _, trivial⟩⟩, ⟨show 2 < 3 by decide, _, rfl, .vars ⟨.d _, .d _, .d _, .d _, .d _, .d _, .d _, .d _, .d _, .d _, .d _, trivial⟩⟩, trivial⟩)
        refine NWp.opsJ ⟨tab [(0, .d (.str a0)), (2, .ptr 0 0 0), (4, .ptr 1 0 0), (5, .ptr 2 0 0), (7, .d (.int .i64 16))], stab [(0, .var [.d (.int .u16 0), .d (.int .u16 0), .d (.int .u16 0), .d (.int .u16 0), .d (.int .u16 0), .d (.int .u16 0), .d (.int .u16 0), .d (.int .u16 0), .d (.bool false), .d (.int .u16 0), .d (.int .u64 0)]), (1, .var [.d (.int .u16 0), .d (.int .u16 0), .d (.int .u16 0), .d (.int .u16 0), .d (.int .u16 0), .d (.int .u16 0), .d (.int .u16 0), .d (.int .u16 0), .d (.bool false), .d (.int .u16 0), .d (.int .u64 0)]), (2, .var [.d (.int .u16 z13.P.a0), .d (.int .u16 z13.P.a1), .d (.int .u16 z13.P.a2), .d (.int .u16 z13.P.a3), .d (.int .u16 z13.P.a4), .d (.int .u16 z13.P.a5), .d (.int .u16 z13.P.a6), .d (.int .u16 z13.P.a7), .d (.bool z13.Tagged), .d (.int .u16 r15), .d (.int .u64 z13.Digest)])], 3⟩ ?_ ?_
        · refine step (v := .d (.int .i64 16)) rfl ?_
          exact RunOps.nil' (Norm.mk [0, 1, 2] (by decide) (by decide) (by decide) ⟨.d _, .ptr 0 _ _ (show 0 < 3 by decide), .ptr 1 _ _ (show 1 < 3 by decide), .ptr 2 _ _ (show 2 < 3 by decide), .d _, trivial⟩ ⟨⟨show 0 < 3 by decide, _, rfl, .vars ⟨.d _, .d _, .d _, .d _, .d _, .d _, .d _, .d _, .d _, .d _, .d _, trivial⟩⟩, ⟨show 1 < 3 by decide, _, rfl, .vars ⟨.d _, .d _, .d _, .d _, .d _, .d _, .d _, .d _, .d _, .d _, .d _, trivial⟩⟩, ⟨show 2 < 3 by decide, _, rfl, .vars ⟨.d _, .d _, .d _, .d _, .d _, .d _, .d _, .d _, .d _, .d _, .d _, trivial⟩⟩, trivial⟩)
        obtain ⟨z24, hl, h⟩ := bindE h
        refine NWp.norm (s0 := ⟨tab [(0, .d (.str a0)), (2, .ptr 0 0 0), (4, .ptr 1 0 0), (5, .ptr 2 0 0), (7, .d (.int .i64 16))], stab [(0, .var [.d (.int .u16 0), .d (.int .u16 0), .d (.int .u16 0), .d (.int .u16 0), .d (.int .u16 0), .d (.int .u16 0), .d (.int .u16 0), .d (.int .u16 0), .d (.bool false), .d (.int .u16 0), .d (.int .u64 0)]), (1, .var [.d (.int .u16 0), .d (.int .u16 0), .d (.int .u16 0), .d (.int .u16 0), .d (.int .u16 0), .d (.int .u16 0), .d (.int .u16 0), .d (.int .u16 0), .d (.bool false), .d (.int .u16 0), .d (.int .u64 0)]), (2, .var [.d (.int .u16 ((api_Frame.mk z13.P z13.Tagged r15 z13.Digest).P.a0)), .d (.int .u16 ((api_Frame.mk z13.P z13.Tagged r15 z13.Digest).P.a1)), .d (.int .u16 ((api_Frame.mk z13.P z13.Tagged r15 z13.Digest).P.a2)), .d (.int .u16 ((api_Frame.mk z13.P z13.Tagged r15 z13.Digest).P.a3)), .d (.int .u16 ((api_Frame.mk z13.P z13.Tagged r15 z13.Digest).P.a4)), .d (.int .u16 ((api_Frame.mk z13.P z13.Tagged r15 z13.Digest).P.a5)), .d (.int .u16 ((api_Frame.mk z13.P z13.Tagged r15 z13.Digest).P.a6)), .d (.int .u16 ((api_Frame.mk z13.P z13.Tagged r15 z13.Digest).P.a7)), .d (.bool ((api_Frame.mk z13.P z13.Tagged r15 z13.Digest).Tagged)), .d (.int .u16 ((api_Frame.mk z13.P z13.Tagged r15 z13.Digest).Tag)), .d (.int .u64 ((api_Frame.mk z13.P z13.Tagged r15 z13.Digest).Digest))])], 3⟩) (Norm.mk [0, 1, 2] (by decide) (by decide) (by decide) ⟨.d _, .ptr 0 _ _ (show 0 < 3 by decide), .ptr 1 _ _ (show 1 < 3 by decide), .ptr 2 _ _ (show 2 < 3 by decide), .d _, trivial⟩ ⟨⟨show 0 < 3 by decide, _, rfl, .vars ⟨.d _, .d _, .d _, .d _, .d _, .d _, .d _, .d _, .d _, .d _, .d _, trivial⟩⟩, ⟨show 1 < 3 by decide, _, rfl, .vars ⟨.d _, .d _, .d _, .d _, .d _, .d _, .d _, .d _, .d _, .d _, .d _, trivial⟩⟩, ⟨show 2 < 3 by decide, _, rfl, .vars ⟨.d _, .d _, .d _, .d _, .d _, .d _, .d _, .d _, .d _, .d _, .d _, trivial⟩⟩, trivial⟩) ?_
        refine NWp.block ?_
        refine loop_forO (cntU 24) (fun (i16 : Int) (qq : api_Frame) => ⟨tab [(0, .d (.str a0)), (2, .ptr 0 0 0), (4, .ptr 1 0 0), (5, .ptr 2 0 0), (7, .d (.int .i64 i16))], stab [(0, .var [.d (.int .u16 0), .d (.int .u16 0), .d (.int .u16 0), .d (.int .u16 0), .d (.int .u16 0), .d (.int .u16 0), .d (.int .u16 0), .d (.int .u16 0), .d (.bool false), .d (.int .u16 0), .d (.int .u64 0)]), (1, .var [.d (.int .u16 0), .d (.int .u16 0), .d (.int .u16 0), .d (.int .u16 0), .d (.int .u16 0), .d (.int .u16 0), .d (.int .u16 0), .d (.int .u16 0), .d (.bool false), .d (.int .u16 0), .d (.int .u64 0)]), (2, .var [.d (.int .u16 qq.P.a0), .d (.int .u16 qq.P.a1), .d (.int .u16 qq.P.a2), .d (.int .u16 qq.P.a3), .d (.int .u16 qq.P.a4), .d (.int .u16 qq.P.a5), .d (.int .u16 qq.P.a6), .d (.int .u16 qq.P.a7), .d (.bool qq.Tagged), .d (.int .u16 qq.Tag), .d (.int .u64 qq.Digest)])], 3⟩) 2 (fun (qq : api_Frame) => ⟨tab [(0, .d (.str a0)), (2, .ptr 0 0 0), (4, .ptr 1 0 0), (5, .ptr 2 0 0)], stab [(0, .var [.d (.int .u16 0), .d (.int .u16 0), .d (.int .u16 0), .d (.int .u16 0), .d (.int .u16 0), .d (.int .u16 0), .d (.int .u16 0), .d (.int .u16 0), .d (.bool false), .d (.int .u16 0), .d (.int .u64 0)]), (1, .var [.d (.int .u16 0), .d (.int .u16 0), .d (.int .u16 0), .d (.int .u16 0), .d (.int .u16 0), .d (.int .u16 0), .d (.int .u16 0), .d (.int .u16 0), .d (.bool false), .d (.int .u16 0), .d (.int .u64 0)]), (2, .var [.d (.int .u16 qq.P.a0), .d (.int .u16 qq.P.a1), .d (.int .u16 qq.P.a2), .d (.int .u16 qq.P.a3), .d (.int .u16 qq.P.a4), .d (.int .u16 qq.P.a5), .d (.int .u16 qq.P.a6), .d (.int .u16 qq.P.a7), .d (.bool qq.Tagged), .d (.int .u16 qq.Tag), .d (.int .u64 qq.Digest)])], 3⟩) Low low_step hl (by unfold Low; omega) ?_ ?_ ?_
        · rintro i16 y17 xr22 hinv20 hgo19 h
          show NWp _ _ _ _ _ ⟨tab [(0, .d (.str a0)), (2, .ptr 0 0 0), (4, .ptr 1 0 0), (5, .ptr 2 0 0), (7, .d (.int .i64 i16))], stab [(0, .var [.d (.int .u16 0), .d (.int .u16 0), .d (.int .u16 0), .d (.int .u16 0), .d (.int .u16 0), .d (.int .u16 0), .d (.int .u16 0), .d (.int .u16 0), .d (.bool false), .d (.int .u16 0), .d (.int .u64 0)]), (1, .var [.d (.int .u16 0), .d (.int .u16 0), .d (.int .u16 0), .d (.int .u16 0), .d (.int .u16 0), .d (.int .u16 0), .d (.int .u16 0), .d (.int .u16 0), .d (.bool false), .d (.int .u16 0), .d (.int .u64 0)]), (2, .var [.d (.int .u16 y17.P.a0), .d (.int .u16 y17.P.a1), .d (.int .u16 y17.P.a2), .d (.int .u16 y17.P.a3), .d (.int .u16 y17.P.a4), .d (.int .u16 y17.P.a5), .d (.int .u16 y17.P.a6), .d (.int .u16 y17.P.a7), .d (.bool y17.Tagged), .d (.int .u16 y17.Tag), .d (.int .u64 y17.Digest)])], 3⟩
          have hc21 : decide (i16 < 24) = true := decide_eq_true hgo19
          refine NWp.seq ?_
          refine NWp.opsJ ⟨tab [(0, .d (.str a0)), (2, .ptr 0 0 0), (4, .ptr 1 0 0), (5, .ptr 2 0 0), (7, .d (.int .i64 i16)), (40, .d (.bool (decide (i16 < 24))))], stab [(0, .var [.d (.int .u16 0), .d (.int .u16 0), .d (.int .u16 0), .d (.int .u16 0), .d (.int .u16 0), .d (.int .u16 0), .d (.int .u16 0), .d (.int .u16 0), .d (.bool false), .d (.int .u16 0), .d (.int .u64 0)]), (1, .var [.d (.int .u16 0), .d (.int .u16 0), .d (.int .u16 0), .d (.int .u16 0), .d (.int .u16 0), .d (.int .u16 0), .d (.int .u16 0), .d (.int .u16 0), .d (.bool false), .d (.int .u16 0), .d (.int .u64 0)]), (2, .var [.d (.int .u16 y17.P.a0), .d (.int .u16 y17.P.a1), .d (.int .u16 y17.P.a2), .d (.int .u16 y17.P.a3), .d (.int .u16 y17.P.a4), .d (.int .u16 y17.P.a5), .d (.int .u16 y17.P.a6), .d (.int .u16 y17.P.a7), .d (.bool y17.Tagged), .d (.int .u16 y17.Tag), .d (.int .u64 y17.Digest)])], 3⟩ ?_ ?_
          · refine step (v := .d (.int .i64 i16)) rfl ?_
            refine step (v := .d (.bool (decide (i16 < 24)))) rfl ?_
            exact RunOps.nil' (Norm.mk [0, 1, 2] (by decide) (by decide) (by decide) ⟨.d _, .ptr 0 _ _ (show 0 < 3 by decide), .ptr 1 _ _ (show 1 < 3 by decide), .ptr 2 _ _ (show 2 < 3 by decide), .d _, .d _, trivial⟩ ⟨⟨show 0 < 3 by decide, _, rfl, .vars ⟨.d _, .d _, .d _, .d _, .d _, .d _, .d _, .d _, .d _, .d _, .d _, trivial⟩⟩, ⟨show 1 < 3 by decide, _, rfl, .vars ⟨.d _, .d _, .d _, .d _, .d _, .d _, .d _, .d _, .d _, .d _, .d _, trivial⟩⟩, ⟨show 2 < 3 by decide, _, rfl, .vars ⟨.d _, .d _, .d _, .d _, .d _, .d _, .d _, .d _, .d _, .d _, .d _, trivial⟩⟩, trivial⟩)
          refine NWp.condT (t := decide (i16 < 24)) rfl hc21 ?_
          refine NWp.skip ?_
          refine NWp.seq ?_
          refine NWp.block ?_
          obtain ⟨b23, hb23, h⟩ := bindE h
          refine NWp.opsE ⟨tab [(0, .d (.str a0)), (2, .ptr 0 0 0), (4, .ptr 1 0 0), (5, .ptr 2 0 0), (7, .d (.int .i64 i16))], stab [(0, .var [.d (.int .u16 0), .d (.int .u16 0), .d (.int .u16 0), .d (.int .u16 0), .d (.int .u16 0), .d (.int .u16 0), .d (.int .u16 0), .d (.int .u16 0), .d (.bool false), .d (.int .u16 0), .d (.int .u64 0)]), (1, .var [.d (.int .u16 0), .d (.int .u16 0), .d (.int .u16 0), .d (.int .u16 0), .d (.int .u16 0), .d (.int .u16 0), .d (.int .u16 0), .d (.int .u16 0), .d (.bool false), .d (.int .u16 0), .d (.int .u64 0)]), (2, .var [.d (.int .u16 y17.P.a0), .d (.int .u16 y17.P.a1), .d (.int .u16 y17.P.a2), .d (.int .u16 y17.P.a3), .d (.int .u16 y17.P.a4), .d (.int .u16 y17.P.a5), .d (.int .u16 y17.P.a6), .d (.int .u16 y17.P.a7), .d (.bool y17.Tagged), .d (.int .u16 y17.Tag), .d (.int .u64 (IntKind.u64.wrap ((IntKind.u64.wrap (y17.Digest * 256)) + (IntKind.u64.wrap b23))))])], 3⟩ ?_ ?_
          · refine step (v := .ptr 2 0 10) rfl ?_
            refine step (v := .d (.int .u64 y17.Digest)) rfl ?_
            refine step (v := .d (.int .u64 (IntKind.u64.wrap (y17.Digest * 256)))) rfl ?_
            refine step (v := .d (.str a0)) rfl ?_
            refine step (v := .d (.int .i64 i16)) rfl ?_
            refine step (v := .d (.int .u8 b23)) (st_idxS hb23 rfl rfl) ?_
            refine step (v := .d (.int .u64 (IntKind.u64.wrap b23))) rfl ?_
            refine step (v := .d (.int .u64 (IntKind.u64.wrap ((IntKind.u64.wrap (y17.Digest * 256)) + (IntKind.u64.wrap b23))))) rfl ?_
            refine step (v := .ptr 2 0 10) rfl ?_
            refine step (v := V.undef) (σ' := (upd (stab [(0, .var [.d (.int .u16 0), .d (.int .u16 0), .d (.int .u16 0), .d (.int .u16 0), .d (.int .u16 0), .d (.int .u16 0), .d (.int .u16 0), .d (.int .u16 0), .d (.bool false), .d (.int .u16 0), .d (.int .u64 0)]), (1, .var [.d (.int .u16 0), .d (.int .u16 0), .d (.int .u16 0), .d (.int .u16 0), .d (.int .u16 0), .d (.int .u16 0), .d (.int .u16 0), .d (.int .u16 0), .d (.bool false), .d (.int .u16 0), .d (.int .u64 0)]), (2, .var [.d (.int .u16 y17.P.a0), .d (.int .u16 y17.P.a1), .d (.int .u16 y17.P.a2), .d (.int .u16 y17.P.a3), .d (.int .u16 y17.P.a4), .d (.int .u16 y17.P.a5), .d (.int .u16 y17.P.a6), .d (.int .u16 y17.P.a7), .d (.bool y17.Tagged), .d (.int .u16 y17.Tag), .d (.int .u64 y17.Digest)])]) 2 (some (.var [.d (.int .u16 y17.P.a0), .d (.int .u16 y17.P.a1), .d (.int .u16 y17.P.a2), .d (.int .u16 y17.P.a3), .d (.int .u16 y17.P.a4), .d (.int .u16 y17.P.a5), .d (.int .u16 y17.P.a6), .d (.int .u16 y17.P.a7), .d (.bool y17.Tagged), .d (.int .u16 y17.Tag), .d (.int .u64 (IntKind.u64.wrap ((IntKind.u64.wrap (y17.Digest * 256)) + (IntKind.u64.wrap b23))))])))) (n' := 3) rfl ?_
            exact RunOps.nil' (Norm.mk [0, 1, 2] (by decide) (by decide) (by decide) ⟨.d _, .ptr 0 _ _ (show 0 < 3 by decide), .ptr 1 _ _ (show 1 < 3 by decide), .ptr 2 _ _ (show 2 < 3 by decide), .d _, trivial⟩ ⟨⟨show 0 < 3 by decide, _, rfl, .vars ⟨.d _, .d _, .d _, .d _, .d _, .d _, .d _, .d _, .d _, .d _, .d _, trivial⟩⟩, ⟨show 1 < 3 by decide, _, rfl, .vars ⟨.d _, .d _, .d _, .d _, .d _, .d _, .d _, .d _, .d _, .d _, .d _, trivial⟩⟩, ⟨show 2 < 3 by decide, _, rfl, .vars ⟨.d _, .d _, .d _, .d _, .d _, .d _, .d _, .d _, .d _, .d _, .d _, trivial⟩⟩, trivial⟩)
          have hh := Option.some.inj h
          subst hh
          refine NWp.opsE ⟨tab [(0, .d (.str a0)), (2, .ptr 0 0 0), (4, .ptr 1 0 0), (5, .ptr 2 0 0), (7, .d (.int .i64 (i16 + 1)))], stab [(0, .var [.d (.int .u16 0), .d (.int .u16 0), .d (.int .u16 0), .d (.int .u16 0), .d (.int .u16 0), .d (.int .u16 0), .d (.int .u16 0), .d (.int .u16 0), .d (.bool false), .d (.int .u16 0), .d (.int .u64 0)]), (1, .var [.d (.int .u16 0), .d (.int .u16 0), .d (.int .u16 0), .d (.int .u16 0), .d (.int .u16 0), .d (.int .u16 0), .d (.int .u16 0), .d (.int .u16 0), .d (.bool false), .d (.int .u16 0), .d (.int .u64 0)]), (2, .var [.d (.int .u16 ((api_Frame.mk y17.P y17.Tagged y17.Tag (IntKind.u64.wrap ((IntKind.u64.wrap (y17.Digest * 256)) + (IntKind.u64.wrap b23)))).P.a0)), .d (.int .u16 ((api_Frame.mk y17.P y17.Tagged y17.Tag (IntKind.u64.wrap ((IntKind.u64.wrap (y17.Digest * 256)) + (IntKind.u64.wrap b23)))).P.a1)), .d (.int .u16 ((api_Frame.mk y17.P y17.Tagged y17.Tag (IntKind.u64.wrap ((IntKind.u64.wrap (y17.Digest * 256)) + (IntKind.u64.wrap b23)))).P.a2)), .d (.int .u16 ((api_Frame.mk y17.P y17.Tagged y17.Tag (IntKind.u64.wrap ((IntKind.u64.wrap (y17.Digest * 256)) + (IntKind.u64.wrap b23)))).P.a3)), .d (.int .u16 ((api_Frame.mk y17.P y17.Tagged y17.Tag (IntKind.u64.wrap ((IntKind.u64.wrap (y17.Digest * 256)) + (IntKind.u64.wrap b23)))).P.a4)), .d (.int .u16 ((api_Frame.mk y17.P y17.Tagged y17.Tag (IntKind.u64.wrap ((IntKind.u64.wrap (y17.Digest * 256)) + (IntKind.u64.wrap b23)))).P.a5)), .d (.int .u16 ((api_Frame.mk y17.P y17.Tagged y17.Tag (IntKind.u64.wrap ((IntKind.u64.wrap (y17.Digest * 256)) + (IntKind.u64.wrap b23)))).P.a6)), .d (.int .u16 ((api_Frame.mk y17.P y17.Tagged y17.Tag (IntKind.u64.wrap ((IntKind.u64.wrap (y17.Digest * 256)) + (IntKind.u64.wrap b23)))).P.a7)), .d (.bool ((api_Frame.mk y17.P y17.Tagged y17.Tag (IntKind.u64.wrap ((IntKind.u64.wrap (y17.Digest * 256)) + (IntKind.u64.wrap b23)))).Tagged)), .d (.int .u16 ((api_Frame.mk y17.P y17.Tagged y17.Tag (IntKind.u64.wrap ((IntKind.u64.wrap (y17.Digest * 256)) + (IntKind.u64.wrap b23)))).Tag)), .d (.int .u64 ((api_Frame.mk y17.P y17.Tagged y17.Tag (IntKind.u64.wrap ((IntKind.u64.wrap (y17.Digest * 256)) + (IntKind.u64.wrap b23)))).Digest))])], 3⟩ ?_ ?_
          · refine step (v := .d (.int .i64 i16)) rfl ?_
            refine step (v := .d (.int .i64 (i16 + 1))) (st_inc (inc_ok hinv20 hgo19 (by decide)) rfl rfl) ?_
            refine step (v := .d (.int .i64 (i16 + 1))) rfl ?_
            exact RunOps.nil' (Norm.mk [0, 1, 2] (by decide) (by decide) (by decide) ⟨.d _, .ptr 0 _ _ (show 0 < 3 by decide), .ptr 1 _ _ (show 1 < 3 by decide), .ptr 2 _ _ (show 2 < 3 by decide), .d _, trivial⟩ ⟨⟨show 0 < 3 by decide, _, rfl, .vars ⟨.d _, .d _, .d _, .d _, .d _, .d _, .d _, .d _, .d _, .d _, .d _, trivial⟩⟩, ⟨show 1 < 3 by decide, _, rfl, .vars ⟨.d _, .d _, .d _, .d _, .d _, .d _, .d _, .d _, .d _, .d _, .d _, trivial⟩⟩, ⟨show 2 < 3 by decide, _, rfl, .vars ⟨.d _, .d _, .d _, .d _, .d _, .d _, .d _, .d _, .d _, .d _, .d _, trivial⟩⟩, trivial⟩)
          exact And.intro rfl rfl
        · rintro i16 y17 hinv20 hgo19
          show NWp _ _ _ _ _ ⟨tab [(0, .d (.str a0)), (2, .ptr 0 0 0), (4, .ptr 1 0 0), (5, .ptr 2 0 0), (7, .d (.int .i64 i16))], stab [(0, .var [.d (.int .u16 0), .d (.int .u16 0), .d (.int .u16 0), .d (.int .u16 0), .d (.int .u16 0), .d (.int .u16 0), .d (.int .u16 0), .d (.int .u16 0), .d (.bool false), .d (.int .u16 0), .d (.int .u64 0)]), (1, .var [.d (.int .u16 0), .d (.int .u16 0), .d (.int .u16 0), .d (.int .u16 0), .d (.int .u16 0), .d (.int .u16 0), .d (.int .u16 0), .d (.int .u16 0), .d (.bool false), .d (.int .u16 0), .d (.int .u64 0)]), (2, .var [.d (.int .u16 y17.P.a0), .d (.int .u16 y17.P.a1), .d (.int .u16 y17.P.a2), .d (.int .u16 y17.P.a3), .d (.int .u16 y17.P.a4), .d (.int .u16 y17.P.a5), .d (.int .u16 y17.P.a6), .d (.int .u16 y17.P.a7), .d (.bool y17.Tagged), .d (.int .u16 y17.Tag), .d (.int .u64 y17.Digest)])], 3⟩
          have hc21 : ¬ (decide (i16 < 24) = true) := fun hq => hgo19 (of_decide_eq_true hq)
          refine NWp.seq ?_
          refine NWp.opsJ ⟨tab [(0, .d (.str a0)), (2, .ptr 0 0 0), (4, .ptr 1 0 0), (5, .ptr 2 0 0), (7, .d (.int .i64 i16)), (40, .d (.bool (decide (i16 < 24))))], stab [(0, .var [.d (.int .u16 0), .d (.int .u16 0), .d (.int .u16 0), .d (.int .u16 0), .d (.int .u16 0), .d (.int .u16 0), .d (.int .u16 0), .d (.int .u16 0), .d (.bool false), .d (.int .u16 0), .d (.int .u64 0)]), (1, .var [.d (.int .u16 0), .d (.int .u16 0), .d (.int .u16 0), .d (.int .u16 0), .d (.int .u16 0), .d (.int .u16 0), .d (.int .u16 0), .d (.int .u16 0), .d (.bool false), .d (.int .u16 0), .d (.int .u64 0)]), (2, .var [.d (.int .u16 y17.P.a0), .d (.int .u16 y17.P.a1), .d (.int .u16 y17.P.a2), .d (.int .u16 y17.P.a3), .d (.int .u16 y17.P.a4), .d (.int .u16 y17.P.a5), .d (.int .u16 y17.P.a6), .d (.int .u16 y17.P.a7), .d (.bool y17.Tagged), .d (.int .u16 y17.Tag), .d (.int .u64 y17.Digest)])], 3⟩ ?_ ?_
          · refine step (v := .d (.int .i64 i16)) rfl ?_
            refine step (v := .d (.bool (decide (i16 < 24)))) rfl ?_
            exact RunOps.nil' (Norm.mk [0, 1, 2] (by decide) (by decide) (by decide) ⟨.d _, .ptr 0 _ _ (show 0 < 3 by decide), .ptr 1 _ _ (show 1 < 3 by decide), .ptr 2 _ _ (show 2 < 3 by decide), .d _, .d _, trivial⟩ ⟨⟨show 0 < 3 by decide, _, rfl, .vars ⟨.d _, .d _, .d _, .d _, .d _, .d _, .d _, .d _, .d _, .d _, .d _, trivial⟩⟩, ⟨show 1 < 3 by decide, _, rfl, .vars ⟨.d _, .d _, .d _, .d _, .d _, .d _, .d _, .d _, .d _, .d _, .d _, trivial⟩⟩, ⟨show 2 < 3 by decide, _, rfl, .vars ⟨.d _, .d _, .d _, .d _, .d _, .d _, .d _, .d _, .d _, .d _, .d _, trivial⟩⟩, trivial⟩)
          refine NWp.condF (t := decide (i16 < 24)) rfl hc21 ?_
          refine NWp.norm (s0 := ⟨tab [(0, .d (.str a0)), (2, .ptr 0 0 0), (4, .ptr 1 0 0), (5, .ptr 2 0 0)], stab [(0, .var [.d (.int .u16 0), .d (.int .u16 0), .d (.int .u16 0), .d (.int .u16 0), .d (.int .u16 0), .d (.int .u16 0), .d (.int .u16 0), .d (.int .u16 0), .d (.bool false), .d (.int .u16 0), .d (.int .u64 0)]), (1, .var [.d (.int .u16 0), .d (.int .u16 0), .d (.int .u16 0), .d (.int .u16 0), .d (.int .u16 0), .d (.int .u16 0), .d (.int .u16 0), .d (.int .u16 0), .d (.bool false), .d (.int .u16 0), .d (.int .u64 0)]), (2, .var [.d (.int .u16 y17.P.a0), .d (.int .u16 y17.P.a1), .d (.int .u16 y17.P.a2), .d (.int .u16 y17.P.a3), .d (.int .u16 y17.P.a4), .d (.int .u16 y17.P.a5), .d (.int .u16 y17.P.a6), .d (.int .u16 y17.P.a7), .d (.bool y17.Tagged), .d (.int .u16 y17.Tag), .d (.int .u64 y17.Digest)])], 3⟩) (Norm.mk [0, 1, 2] (by decide) (by decide) (by decide) ⟨.d _, .ptr 0 _ _ (show 0 < 3 by decide), .ptr 1 _ _ (show 1 < 3 by decide), .ptr 2 _ _ (show 2 < 3 by decide), trivial⟩ ⟨⟨show 0 < 3 by decide, _, rfl, .vars ⟨.d _, .d _, .d _, .d _, .d _, .d _, .d _, .d _, .d _, .d _, .d _, trivial⟩⟩, ⟨show 1 < 3 by decide, _, rfl, .vars ⟨.d _, .d _, .d _, .d _, .d _, .d _, .d _, .d _, .d _, .d _, .d _, trivial⟩⟩, ⟨show 2 < 3 by decide, _, rfl, .vars ⟨.d _, .d _, .d _, .d _, .d _, .d _, .d _, .d _, .d _, .d _, .d _, trivial⟩⟩, trivial⟩) ?_
          refine NWp.exit ?_
          exact And.intro rfl rfl
        have hh := Option.some.inj h
        subst hh
        exact And.intro rfl rfl
      · replace h := iteF hc14 h
        refine NWp.condF (t := z13.Tagged) rfl hc14 ?_
        have hh := Option.some.inj h
        subst hh
        refine NWp.norm (s0 := ⟨tab [(0, .d (.str a0)), (2, .ptr 0 0 0), (4, .ptr 1 0 0), (5, .ptr 2 0 0)], stab [(0, .var [.d (.int .u16 0), .d (.int .u16 0), .d (.int .u16 0), .d (.int .u16 0), .d (.int .u16 0), .d (.int .u16 0), .d (.int .u16 0), .d (.int .u16 0), .d (.bool false), .d (.int .u16 0), .d (.int .u64 0)]), (1, .var [.d (.int .u16 0), .d (.int .u16 0), .d (.int .u16 0), .d (.int .u16 0), .d (.int .u16 0), .d (.int .u16 0), .d (.int .u16 0), .d (.int .u16 0), .d (.bool false), .d (.int .u16 0), .d (.int .u64 0)]), (2, .var [.d (.int .u16 z13.P.a0), .d (.int .u16 z13.P.a1), .d (.int .u16 z13.P.a2), .d (.int .u16 z13.P.a3), .d (.int .u16 z13.P.a4), .d (.int .u16 z13.P.a5), .d (.int .u16 z13.P.a6), .d (.int .u16 z13.P.a7), .d (.bool z13.Tagged), .d (.int .u16 z13.Tag), .d (.int .u64 z13.Digest)])], 3⟩) (Norm.mk [0, 1, 2] (by decide) (by decide) (by decide) ⟨.d _, .ptr 0 _ _ (show 0 < 3 by decide), .ptr 1 _ _ (show 1 < 3 by decide), .ptr 2 _ _ (show 2 < 3 by decide), trivial⟩ ⟨⟨show 0 < 3 by decide, _, rfl, .vars ⟨.d _, .d _, .d _, .d _, .d _, .d _, .d _, .d _, .d _, .d _, .d _, trivial⟩⟩, ⟨show 1 < 3 by decide, _, rfl, .vars ⟨.d _, .d _, .d _, .d _, .d _, .d _, .d _, .d _, .d _, .d _, .d _, trivial⟩⟩, ⟨show 2 < 3 by decide, _, rfl, .vars ⟨.d _, .d _, .d _, .d _, .d _, .d _, .d _, .d _, .d _, .d _, .d _, trivial⟩⟩, trivial⟩) ?_
        refine NWp.skip ?_
        exact And.intro rfl rfl
    refine NWp.seq ?_
    obtain ⟨r28, hr28, h⟩ := bindE h
    refine NWp.opsJ ⟨tab [(2, .ptr 0 0 0), (4, .ptr 1 0 0), (5, .ptr 2 0 0), (55, .d (.bool (!(seqB r28 a0))))], stab [(0, .var [.d (.int .u16 0), .d (.int .u16 0), .d (.int .u16 0), .d (.int .u16 0), .d (.int .u16 0), .d (.int .u16 0), .d (.int .u16 0), .d (.int .u16 0), .d (.bool false), .d (.int .u16 0), .d (.int .u64 0)]), (1, .var [.d (.int .u16 0), .d (.int .u16 0), .d (.int .u16 0), .d (.int .u16 0), .d (.int .u16 0), .d (.int .u16 0), .d (.int .u16 0), .d (.int .u16 0), .d (.bool false), .d (.int .u16 0), .d (.int .u64 0)]), (2, .var [.d (.int .u16 y26.P.a0), .d (.int .u16 y26.P.a1), .d (.int .u16 y26.P.a2), .d (.int .u16 y26.P.a3), .d (.int .u16 y26.P.a4), .d (.int .u16 y26.P.a5), .d (.int .u16 y26.P.a6), .d (.int .u16 y26.P.a7), .d (.bool y26.Tagged), .d (.int .u16 y26.Tag), .d (.int .u64 y26.Digest)])], 3⟩ ?_ ?_
    · refine step (v := .d (eapi_Frame y26)) (st_ldV (ds := [.int .u16 y26.P.a0, .int .u16 y26.P.a1, .int .u16 y26.P.a2, .int .u16 y26.P.a3, .int .u16 y26.P.a4, .int .u16 y26.P.a5, .int .u16 y26.P.a6, .int .u16 y26.P.a7, .bool y26.Tagged, .int .u16 y26.Tag, .int .u64 y26.Digest]) rfl rfl (show 11 ≤ 11 by decide) rfl) ?_
      refine stepC (r := .str r28) (ArgsOk.dt ArgsOk.nil') (c_ref03_Encode hr28) ?_
      refine step (v := .d (.str a0)) rfl ?_
      refine step (v := .d (.bool (!(seqB r28 a0)))) rfl ?_
      exact RunOps.nil' (Norm.mk [0, 1, 2] (by decide) (by decide) (by decide) ⟨.ptr 0 _ _ (show 0 < 3 by decide), .ptr 1 _ _ (show 1 < 3 by decide), .ptr 2 _ _ (show 2 < 3 by decide), .d _, trivial⟩ ⟨⟨show 0 < 3 by decide, _, rfl, .vars ⟨.d _, .d _, .d _, .d _, .d _, .d _, .d _, .d _, .d _, .d _, .d _, trivial⟩⟩, ⟨show 1 < 3 by decide, _, rfl, .vars ⟨.d _, .d _, .d _, .d _, .d _, .d _, .d _, .d _, .d _, .d _, .d _, trivial⟩⟩, ⟨show 2 < 3 by decide, _, rfl, .vars ⟨.d _, .d _, .d _, .d _, .d _, .d _, .d _, .d _, .d _, .d _, .d _, trivial⟩⟩, trivial⟩)
    by_cases hc29 : (!(seqB r28 a0)) = true
    · replace h := iteT hc29 h
      refine NWp.condT (t := (!(seqB r28 a0))) rfl hc29 ?_
      refine NWp.opsJ ⟨tab [(2, .ptr 0 0 0), (3, .d (.bool false))], stab [(0, .var [.d (.int .u16 0), .d (.int .u16 0), .d (.int .u16 0), .d (.int .u16 0), .d (.int .u16 0), .d (.int .u16 0), .d (.int .u16 0), .d (.int .u16 0), .d (.bool false), .d (.int .u16 0), .d (.int .u64 0)])], 1⟩ ?_ ?_
      · refine step (v := .d (eapi_Frame (api_Frame.mk (A8.mk 0 0 0 0 0 0 0 0) false 0 0))) (st_ldV (ds := [.int .u16 0, .int .u16 0, .int .u16 0, .int .u16 0, .int .u16 0, .int .u16 0, .int .u16 0, .int .u16 0, .bool false, .int .u16 0, .int .u64 0]) rfl rfl (show 11 ≤ 11 by decide) rfl) ?_
        refine step (v := V.undef) (σ' := (upd (stab [(0, .var [.d (.int .u16 0), .d (.int .u16 0), .d (.int .u16 0), .d (.int .u16 0), .d (.int .u16 0), .d (.int .u16 0), .d (.int .u16 0), .d (.int .u16 0), .d (.bool false), .d (.int .u16 0), .d (.int .u64 0)]), (1, .var [.d (.int .u16 0), .d (.int .u16 0), .d (.int .u16 0), .d (.int .u16 0), .d (.int .u16 0), .d (.int .u16 0), .d (.int .u16 0), .d (.int .u16 0), .d (.bool false), .d (.int .u16 0), .d (.int .u64 0)]), (2, .var [.d (.int .u16 y26.P.a0), .d (.int .u16 y26.P.a1), .d (.int .u16 y26.P.a2), .d (.int .u16 y26.P.a3), .d (.int .u16 y26.P.a4), .d (.int .u16 y26.P.a5), .d (.int .u16 y26.P.a6), .d (.int .u16 y26.P.a7), .d (.bool y26.Tagged), .d (.int .u16 y26.Tag), .d (.int .u64 y26.Digest)])]) 0 (some (.var [.d (.int .u16 0), .d (.int .u16 0), .d (.int .u16 0), .d (.int .u16 0), .d (.int .u16 0), .d (.int .u16 0), .d (.int .u16 0), .d (.int .u16 0), .d (.bool false), .d (.int .u16 0), .d (.int .u64 0)])))) (n' := 3) rfl ?_
        refine step (v := .d (.bool false)) rfl ?_
        exact RunOps.nil' (Norm.mk [0] (by decide) (by decide) (by decide) ⟨.ptr 0 _ _ (show 0 < 1 by decide), .d _, trivial⟩ ⟨⟨show 0 < 1 by decide, _, rfl, .vars ⟨.d _, .d _, .d _, .d _, .d _, .d _, .d _, .d _, .d _, .d _, .d _, trivial⟩⟩, trivial⟩)
      have hh := Option.some.inj h
      subst hh
      refine NWp.ret ?_
      show FQ _ _ _ _
      exact FQ.mkT (.inr rfl) (res_cell (ds := [.int .u16 0, .int .u16 0, .int .u16 0, .int .u16 0, .int .u16 0, .int .u16 0, .int .u16 0, .int .u16 0, .bool false, .int .u16 0, .int .u64 0]) rfl rfl (show 11 ≤ 11 by decide) rfl (res_t (v := .d (.bool false)) rfl rfl)) (RV.d (RV.d trivial))
    · replace h := iteF hc29 h
      refine NWp.condF (t := (!(seqB r28 a0))) rfl hc29 ?_
      refine NWp.skip ?_
      refine NWp.opsJ ⟨tab [(2, .ptr 0 0 0), (3, .d (.bool true))], stab [(0, .var [.d (.int .u16 y26.P.a0), .d (.int .u16 y26.P.a1), .d (.int .u16 y26.P.a2), .d (.int .u16 y26.P.a3), .d (.int .u16 y26.P.a4), .d (.int .u16 y26.P.a5), .d (.int .u16 y26.P.a6), .d (.int .u16 y26.P.a7), .d (.bool y26.Tagged), .d (.int .u16 y26.Tag), .d (.int .u64 y26.Digest)])], 1⟩ ?_ ?_
      · refine step (v := .d (eapi_Frame y26)) (st_ldV (ds := [.int .u16 y26.P.a0, .int .u16 y26.P.a1, .int .u16 y26.P.a2, .int .u16 y26.P.a3, .int .u16 y26.P.a4, .int .u16 y26.P.a5, .int .u16 y26.P.a6, .int .u16 y26.P.a7, .bool y26.Tagged, .int .u16 y26.Tag, .int .u64 y26.Digest]) rfl rfl (show 11 ≤ 11 by decide) rfl) ?_
        refine step (v := V.undef) (σ' := (upd (stab [(0, .var [.d (.int .u16 0), .d (.int .u16 0), .d (.int .u16 0), .d (.int .u16 0), .d (.int .u16 0), .d (.int .u16 0), .d (.int .u16 0), .d (.int .u16 0), .d (.bool false), .d (.int .u16 0), .d (.int .u64 0)]), (1, .var [.d (.int .u16 0), .d (.int .u16 0), .d (.int .u16 0), .d (.int .u16 0), .d (.int .u16 0), .d (.int .u16 0), .d (.int .u16 0), .d (.int .u16 0), .d (.bool false), .d (.int .u16 0), .d (.int .u64 0)]), (2, .var [.d (.int .u16 y26.P.a0), .d (.int .u16 y26.P.a1), .d (.int .u16 y26.P.a2), .d (.int .u16 y26.P.a3), .d (.int .u16 y26.P.a4), .d (.int .u16 y26.P.a5), .d (.int .u16 y26.P.a6), .d (.int .u16 y26.P.a7), .d (.bool y26.Tagged), .d (.int .u16 y26.Tag), .d (.int .u64 y26.Digest)])]) 0 (some (.var [.d (.int .u16 y26.P.a0), .d (.int .u16 y26.P.a1), .d (.int .u16 y26.P.a2), .d (.int .u16 y26.P.a3), .d (.int .u16 y26.P.a4), .d (.int .u16 y26.P.a5), .d (.int .u16 y26.P.a6), .d (.int .u16 y26.P.a7), .d (.bool y26.Tagged), .d (.int .u16 y26.Tag), .d (.int .u64 y26.Digest)])))) (n' := 3) rfl ?_
        refine step (v := .d (.bool true)) rfl ?_
        exact RunOps.nil' (Norm.mk [0] (by decide) (by decide) (by decide) ⟨.ptr 0 _ _ (show 0 < 1 by decide), .d _, trivial⟩ ⟨⟨show 0 < 1 by decide, _, rfl, .vars ⟨.d _, .d _, .d _, .d _, .d _, .d _, .d _, .d _, .d _, .d _, .d _, trivial⟩⟩, trivial⟩)
      have hh := Option.some.inj h
      subst hh
      refine NWp.ret ?_
      show FQ _ _ _ _
      exact FQ.mkT (.inr rfl) (res_cell (ds := [.int .u16 y26.P.a0, .int .u16 y26.P.a1, .int .u16 y26.P.a2, .int .u16 y26.P.a3, .int .u16 y26.P.a4, .int .u16 y26.P.a5, .int .u16 y26.P.a6, .int .u16 y26.P.a7, .bool y26.Tagged, .int .u16 y26.Tag, .int .u64 y26.Digest]) rfl rfl (show 11 ≤ 11 by decide) rfl (res_t (v := .d (.bool true)) rfl rfl)) (RV.d (RV.d trivial))

theorem c_law03_FrameAny {a0 : ByteArray} {r : Bool} (h : law03_FrameAny a0 = some r) : PCall Try.prog 6 [.str a0] (.bool r) := by
  refine PCall.introN ok6 (show 1 ≤ 46 by decide) ?_
  refine NWp.norm (s0 := ⟨tab [(0, .d (.str a0))], stab [], 0⟩) (Norm.mk [] (by decide) (by decide) (by decide) ⟨.d _, trivial⟩ trivial) ?_
  refine NWp.opsJ ⟨tab [(0, .d (.str a0))], stab [], 0⟩ ?_ ?_
  · refine step (v := .d (.bool false)) rfl ?_
    exact RunOps.nil' (Norm.mk [] (by decide) (by decide) (by decide) ⟨.d _, trivial⟩ trivial)
  refine NWp.seq ?_
  obtain ⟨r1, hr1, h⟩ := bindE h
  refine NWp.opsJ ⟨tab [(0, .d (.str a0)), (8, .d (.bool (!r1)))], stab [], 0⟩ ?_ ?_
  · refine stepC (r := .bool r1) ArgsOk.nil' (c_law03_awake hr1) ?_
    refine step (v := .d (.bool (!r1))) rfl ?_
    exact RunOps.nil' (Norm.mk [] (by decide) (by decide) (by decide) ⟨.d _, .d _, trivial⟩ trivial)
  by_cases hc2 : (!r1) = true
  · replace h := iteT hc2 h
    refine NWp.condT (t := (!r1)) rfl hc2 ?_
    refine NWp.opsJ ⟨tab [(2, .d (.bool false))], stab [], 0⟩ ?_ ?_
    · refine step (v := .d (.bool false)) rfl ?_
      exact RunOps.nil' (Norm.mk [] (by decide) (by decide) (by decide) ⟨.d _, trivial⟩ trivial)
    have hh := Option.some.inj h
    subst hh
    refine NWp.ret ?_
    show FQ _ _ _ _
    exact FQ.mk1 (.inr rfl) (res_t (v := .d (.bool false)) rfl rfl) (RV.d trivial)
  · replace h := iteF hc2 h
    refine NWp.condF (t := (!r1)) rfl hc2 ?_
    refine NWp.skip ?_
    refine NWp.seq ?_
    refine NWp.opsJ ⟨tab [(0, .d (.str a0)), (11, .d (.bool (decide ((a0.size : Int) > 300))))], stab [], 0⟩ ?_ ?_
    · refine step (v := .d (.str a0)) rfl ?_
      refine step (v := .d (.int .i64 (a0.size : Int))) rfl ?_
      refine step (v := .d (.bool (decide ((a0.size : Int) > 300)))) rfl ?_
      exact RunOps.nil' (Norm.mk [] (by decide) (by decide) (by decide) ⟨.d _, .d _, trivial⟩ trivial)
    by_cases hc3 : decide ((a0.size : Int) > 300) = true
    · replace h := iteT hc3 h
      refine NWp.condT (t := decide ((a0.size : Int) > 300)) rfl hc3 ?_
      refine NWp.opsJ ⟨tab [(2, .d (.bool true))], stab [], 0⟩ ?_ ?_
      · refine step (v := .d (.bool true)) rfl ?_
        exact RunOps.nil' (Norm.mk [] (by decide) (by decide) (by decide) ⟨.d _, trivial⟩ trivial)
      have hh := Option.some.inj h
      subst hh
      refine NWp.ret ?_
      show FQ _ _ _ _
      exact FQ.mk1 (.inr rfl) (res_t (v := .d (.bool true)) rfl rfl) (RV.d trivial)
    · replace h := iteF hc3 h
      refine NWp.condF (t := decide ((a0.size : Int) > 300)) rfl hc3 ?_
      refine NWp.skip ?_
      obtain ⟨r4, hr4, h⟩ := bindE h
      refine NWp.opsJ ⟨tab [(0, .d (.str a0)), (3, .ptr 0 0 0), (4, .d (.int .i64 r4.2))], stab [(0, .var [.d (.int .u16 r4.1.P.a0), .d (.int .u16 r4.1.P.a1), .d (.int .u16 r4.1.P.a2), .d (.int .u16 r4.1.P.a3), .d (.int .u16 r4.1.P.a4), .d (.int .u16 r4.1.P.a5), .d (.int .u16 r4.1.P.a6), .d (.int .u16 r4.1.P.a7), .d (.bool r4.1.Tagged), .d (.int .u16 r4.1.Tag), .d (.int .u64 r4.1.Digest)])], 1⟩ ?_ ?_
      · refine step (v := .d (.str a0)) rfl ?_
        refine stepC (r := .tup [eapi_Frame r4.1, .int .i64 r4.2]) (ArgsOk.dt ArgsOk.nil') (c_frame_Decode hr4) ?_
        refine step (v := .d (.tup [eapi_Frame r4.1, .int .i64 r4.2])) rfl ?_
        refine step (v := .d (eapi_Frame r4.1)) rfl ?_
        refine step (v := .d (.int .i64 r4.2)) rfl ?_
        refine step (v := .ptr 0 0 0) (σ' := (upd (stab []) 0 (some (.var [.d (.int .u16 0), .d (.int .u16 0), .d (.int .u16 0), .d (.int .u16 0), .d (.int .u16 0), .d (.int .u16 0), .d (.int .u16 0), .d (.int .u16 0), .d (.bool false), .d (.int .u16 0), .d (.int .u64 0)])))) (n' := 1) rfl ?_
        refine step (v := V.undef) (σ' := (upd (upd (stab []) 0 (some (.var [.d (.int .u16 0), .d (.int .u16 0), .d (.int .u16 0), .d (.int .u16 0), .d (.int .u16 0), .d (.int .u16 0), .d (.int .u16 0), .d (.int .u16 0), .d (.bool false), .d (.int .u16 0), .d (.int .u64 0)]))) 0 (some (.var [.d (.int .u16 r4.1.P.a0), .d (.int .u16 r4.1.P.a1), .d (.int .u16 r4.1.P.a2), .d (.int .u16 r4.1.P.a3), .d (.int .u16 r4.1.P.a4), .d (.int .u16 r4.1.P.a5), .d (.int .u16 r4.1.P.a6), .d (.int .u16 r4.1.P.a7), .d (.bool r4.1.Tagged), .d (.int .u16 r4.1.Tag), .d (.int .u64 r4.1.Digest)])))) (n' := 1) rfl ?_
        refine step (v := .d (.int .i64 r4.2)) rfl ?_
        exact RunOps.nil' (Norm.mk [0] (by decide) (by decide) (by decide) ⟨.d _, .ptr 0 _ _ (show 0 < 1 by decide), .d _, trivial⟩ ⟨⟨show 0 < 1 by decide, _, rfl, .vars ⟨.d _, .d _, .d _, .d _, .d _, .d _, .d _, .d _, .d _, .d _, .d _, trivial⟩⟩, trivial⟩)
      obtain ⟨r5, hr5, h⟩ := bindE h
      refine NWp.opsJ ⟨tab [(0, .d (.str a0)), (3, .ptr 0 0 0), (4, .d (.int .i64 r4.2)), (5, .ptr 1 0 0), (6, .d (.bool r5.2))], stab [(0, .var [.d (.int .u16 r4.1.P.a0), .d (.int .u16 r4.1.P.a1), .d (.int .u16 r4.1.P.a2), .d (.int .u16 r4.1.P.a3), .d (.int .u16 r4.1.P.a4), .d (.int .u16 r4.1.P.a5), .d (.int .u16 r4.1.P.a6), .d (.int .u16 r4.1.P.a7), .d (.bool r4.1.Tagged), .d (.int .u16 r4.1.Tag), .d (.int .u64 r4.1.Digest)]), (1, .var [.d (.int .u16 r5.1.P.a0), .d (.int .u16 r5.1.P.a1), .d (.int .u16 r5.1.P.a2), .d (.int .u16 r5.1.P.a3), .d (.int .u16 r5.1.P.a4), .d (.int .u16 r5.1.P.a5), .d (.int .u16 r5.1.P.a6), .d (.int .u16 r5.1.P.a7), .d (.bool r5.1.Tagged), .d (.int .u16 r5.1.Tag), .d (.int .u64 r5.1.Digest)])], 2⟩ ?_ ?_
      · refine step (v := .d (.str a0)) rfl ?_
        refine stepC (r := .tup [eapi_Frame r5.1, .bool r5.2]) (ArgsOk.dt ArgsOk.nil') (c_ref03_Decode hr5) ?_
        refine step (v := .d (.tup [eapi_Frame r5.1, .bool r5.2])) rfl ?_
        refine step (v := .d (eapi_Frame r5.1)) rfl ?_
        refine step (v := .d (.bool r5.2)) rfl ?_
        refine step (v := .ptr 1 0 0) (σ' := (upd (stab [(0, .var [.d (.int .u16 r4.1.P.a0), .d (.int .u16 r4.1.P.a1), .d (.int .u16 r4.1.P.a2), .d (.int .u16 r4.1.P.a3), .d (.int .u16 r4.1.P.a4), .d (.int .u16 r4.1.P.a5), .d (.int .u16 r4.1.P.a6), .d (.int .u16 r4.1.P.a7), .d (.bool r4.1.Tagged), .d (.int .u16 r4.1.Tag), .d (.int .u64 r4.1.Digest)])]) 1 (some (.var [.d (.int .u16 0), .d (.int .u16 0), .d (.int .u16 0), .d (.int .u16 0), .d (.int .u16 0), .d (.int .u16 0), .d (.int .u16 0), .d (.int .u16 0), .d (.bool false), .d (.int .u16 0), .d (.int .u64 0)])))) (n' := 2) rfl ?_
        refine step (v := V.undef) (σ' := (upd (upd (stab [(0, .var [.d (.int .u16 r4.1.P.a0), .d (.int .u16 r4.1.P.a1), .d (.int .u16 r4.1.P.a2), .d (.int .u16 r4.1.P.a3), .d (.int .u16 r4.1.P.a4), .d (.int .u16 r4.1.P.a5), .d (.int .u16 r4.1.P.a6), .d (.int .u16 r4.1.P.a7), .d (.bool r4.1.Tagged), .d (.int .u16 r4.1.Tag), .d (.int .u64 r4.1.Digest)])]) 1 (some (.var [.d (.int .u16 0), .d (.int .u16 0), .d (.int .u16 0), .d (.int .u16 0), .d (.int .u16 0), .d (.int .u16 0), .d (.int .u16 0), .d (.int .u16 0), .d (.bool false), .d (.int .u16 0), .d (.int .u64 0)]))) 1 (some (.var [.d (.int .u16 r5.1.P.a0), .d (.int .u16 r5.1.P.a1), .d (.int .u16 r5.1.P.a2), .d (.int .u16 r5.1.P.a3), .d (.int .u16 r5.1.P.a4), .d (.int .u16 r5.1.P.a5), .d (.int .u16 r5.1.P.a6), .d (.int .u16 r5.1.P.a7), .d (.bool r5.1.Tagged), .d (.int .u16 r5.1.Tag), .d (.int .u64 r5.1.Digest)])))) (n' := 2) rfl ?_
        refine step (v := .d (.bool r5.2)) rfl ?_
        exact RunOps.nil' (Norm.mk [0, 1] (by decide) (by decide) (by decide) ⟨.d _, .ptr 0 _ _ (show 0 < 2 by decide), .d _, .ptr 1 _ _ (show 1 < 2 by decide), .d _, trivial⟩ ⟨⟨show 0 < 2 by decide, _, rfl, .vars ⟨.d _, .d _, .d _, .d _, .d _, .d _, .d _, .d _, .d _, .d _, .d _, trivial⟩⟩, ⟨show 1 < 2 by decide, _, rfl, .vars ⟨.d _, .d _, .d _, .d _, .d _, .d _, .d _, .d _, .d _, .d _, .d _, trivial⟩⟩, trivial⟩)
      refine NWp.seq ?_
      refine NWp.opsJ ⟨tab [(0, .d (.str a0)), (3, .ptr 0 0 0), (4, .d (.int .i64 r4.2)), (6, .d (.bool r5.2)), (30, .d (.bool ((!((r4.2 == 0) == r5.2)) || (!(r4.1 == r5.1)))))], stab [(0, .var [.d (.int .u16 r4.1.P.a0), .d (.int .u16 r4.1.P.a1), .d (.int .u16 r4.1.P.a2), .d (.int .u16 r4.1.P.a3), .d (.int .u16 r4.1.P.a4), .d (.int .u16 r4.1.P.a5), .d (.int .u16 r4.1.P.a6), .d (.int .u16 r4.1.P.a7), .d (.bool r4.1.Tagged), .d (.int .u16 r4.1.Tag), .d (.int .u64 r4.1.Digest)])], 1⟩ ?_ ?_
      · refine step (v := .d (.int .i64 r4.2)) rfl ?_
        refine step (v := .d (.bool (r4.2 == 0))) rfl ?_
        refine step (v := .d (.bool r5.2)) rfl ?_
        refine step (v := .d (.bool (!((r4.2 == 0) == r5.2)))) rfl ?_
        refine step (v := .d (.bool (!((r4.2 == 0) == r5.2)))) rfl ?_
        by_cases hg6 : (!((r4.2 == 0) == r5.2)) = true
        · refine stepX (c := (!((r4.2 == 0) == r5.2))) rfl (by rw [hg6]; decide) ?_
          refine stepX (c := (!((r4.2 == 0) == r5.2))) rfl (by rw [hg6]; decide) ?_
          refine stepX (c := (!((r4.2 == 0) == r5.2))) rfl (by rw [hg6]; decide) ?_
          refine step (v := .d (.bool true)) (st_pickT (b := (!((r4.2 == 0) == r5.2))) rfl hg6 rfl) ?_
          exact RunOps.nil' (Norm.mk [0] (by decide) (by decide) (by decide) ⟨.d _, .ptr 0 _ _ (show 0 < 1 by decide), .d _, .d _, .eq (by simp [hg6]), trivial⟩ ⟨⟨show 0 < 1 by decide, _, rfl, .vars ⟨.d _, .d _, .d _, .d _, .d _, .d _, .d _, .d _, .d _, .d _, .d _, trivial⟩⟩, trivial⟩)
        · refine stepG (c := (!((r4.2 == 0) == r5.2))) rfl (Bool.eq_false_iff.2 hg6) ?_
          refine step (v := .d (eapi_Frame r4.1)) (st_ldV (ds := [.int .u16 r4.1.P.a0, .int .u16 r4.1.P.a1, .int .u16 r4.1.P.a2, .int .u16 r4.1.P.a3, .int .u16 r4.1.P.a4, .int .u16 r4.1.P.a5, .int .u16 r4.1.P.a6, .int .u16 r4.1.P.a7, .bool r4.1.Tagged, .int .u16 r4.1.Tag, .int .u64 r4.1.Digest]) rfl rfl (show 11 ≤ 11 by decide) rfl) ?_
          refine stepG (c := (!((r4.2 == 0) == r5.2))) rfl (Bool.eq_false_iff.2 hg6) ?_
          refine step (v := .d (eapi_Frame r5.1)) (st_ldV (ds := [.int .u16 r5.1.P.a0, .int .u16 r5.1.P.a1, .int .u16 r5.1.P.a2, .int .u16 r5.1.P.a3, .int .u16 r5.1.P.a4, .int .u16 r5.1.P.a5, .int .u16 r5.1.P.a6, .int .u16 r5.1.P.a7, .bool r5.1.Tagged, .int .u16 r5.1.Tag, .int .u64 r5.1.Digest]) rfl rfl (show 11 ≤ 11 by decide) rfl) ?_
          refine stepG (c := (!((r4.2 == 0) == r5.2))) rfl (Bool.eq_false_iff.2 hg6) ?_
          refine step (v := .d (.bool (!(r4.1 == r5.1)))) (st_eqS (neg := true) rfl rfl (eqS_api_Frame r4.1 r5.1)) ?_
          refine step (v := .d (.bool (!(r4.1 == r5.1)))) (st_pickF (b := (!((r4.2 == 0) == r5.2))) rfl hg6 rfl) ?_
          exact RunOps.nil' (Norm.mk [0] (by decide) (by decide) (by decide) ⟨.d _, .ptr 0 _ _ (show 0 < 1 by decide), .d _, .d _, .eq (by simp [hg6]), trivial⟩ ⟨⟨show 0 < 1 by decide, _, rfl, .vars ⟨.d _, .d _, .d _, .d _, .d _, .d _, .d _, .d _, .d _, .d _, .d _, trivial⟩⟩, trivial⟩)
      by_cases hc7 : ((!((r4.2 == 0) == r5.2)) || (!(r4.1 == r5.1))) = true
      · replace h := iteT hc7 h
        refine NWp.condT (t := ((!((r4.2 == 0) == r5.2)) || (!(r4.1 == r5.1)))) rfl hc7 ?_
        refine NWp.opsJ ⟨tab [(2, .d (.bool false))], stab [], 0⟩ ?_ ?_
        · refine step (v := .d (.bool false)) rfl ?_
          exact RunOps.nil' (Norm.mk [] (by decide) (by decide) (by decide) ⟨.d _, trivial⟩ trivial)
        have hh := Option.some.inj h
        subst hh
        refine NWp.ret ?_
        show FQ _ _ _ _
        exact FQ.mk1 (.inr rfl) (res_t (v := .d (.bool false)) rfl rfl) (RV.d trivial)
      · replace h := iteF hc7 h
        refine NWp.condF (t := ((!((r4.2 == 0) == r5.2)) || (!(r4.1 == r5.1)))) rfl hc7 ?_
        refine NWp.skip ?_
        obtain ⟨y13, hv, h⟩ := bindE h
        refine NWp.opsJ ⟨tab [(2, .d (.bool y13))], stab [], 0⟩ ?_ ?_
        · refine step (v := .d (.bool r5.2)) rfl ?_
          refine step (v := .d (.bool r5.2)) rfl ?_
          by_cases hg8 : r5.2 = true
          · replace hv := iteT hg8 hv
            obtain ⟨r9, hr9, hv⟩ := bindE hv
            refine stepG (c := r5.2) rfl hg8 ?_
            refine step (v := .d (eapi_Frame r4.1)) (st_ldV (ds := [.int .u16 r4.1.P.a0, .int .u16 r4.1.P.a1, .int .u16 r4.1.P.a2, .int .u16 r4.1.P.a3, .int .u16 r4.1.P.a4, .int .u16 r4.1.P.a5, .int .u16 r4.1.P.a6, .int .u16 r4.1.P.a7, .bool r4.1.Tagged, .int .u16 r4.1.Tag, .int .u64 r4.1.Digest]) rfl rfl (show 11 ≤ 11 by decide) rfl) ?_
            refine stepG (c := r5.2) rfl hg8 ?_
            refine stepC (r := .str r9) (ArgsOk.dt ArgsOk.nil') (c_frame_Encode hr9) ?_
            refine stepG (c := r5.2) rfl hg8 ?_
            refine step (v := .d (.str a0)) rfl ?_
            refine stepG (c := r5.2) rfl hg8 ?_
            refine step (v := .d (.bool (seqB r9 a0))) rfl ?_
            refine step (v := .d (.bool (seqB r9 a0))) (st_pickT (b := r5.2) rfl hg8 rfl) ?_
            refine step (v := .d (.bool (seqB r9 a0))) rfl ?_
            by_cases hg10 : seqB r9 a0 = true
            · replace hv := iteT hg10 hv
              refine stepX (c := seqB r9 a0) rfl (by rw [hg10]; decide) ?_
              refine stepX (c := seqB r9 a0) rfl (by rw [hg10]; decide) ?_
              refine stepX (c := seqB r9 a0) rfl (by rw [hg10]; decide) ?_
              refine stepXX rfl ?_
              refine stepXX rfl ?_
              refine stepX (c := seqB r9 a0) rfl (by rw [hg10]; decide) ?_
              refine step (v := .d (.bool true)) (st_pickT (b := seqB r9 a0) rfl hg10 rfl) ?_
              refine step (v := .d (.bool true)) rfl ?_
              have hh := Option.some.inj hv
              subst hh
              exact RunOps.nil' (Norm.mk [] (by decide) (by decide) (by decide) ⟨.d _, trivial⟩ trivial)
            · replace hv := iteF hg10 hv
              refine stepG (c := seqB r9 a0) rfl (Bool.eq_false_iff.2 hg10) ?_
              refine step (v := .d (.bool r5.2)) rfl ?_
              refine stepG (c := seqB r9 a0) rfl (Bool.eq_false_iff.2 hg10) ?_
              refine step (v := .d (.bool (!r5.2))) rfl ?_
              refine stepG (c := seqB r9 a0) rfl (Bool.eq_false_iff.2 hg10) ?_
              refine step (v := .d (.bool (!r5.2))) rfl ?_
              by_cases hg11 : (!r5.2) = true
              · replace hv := iteT hg11 hv
                refine stepG (c := (!r5.2)) rfl hg11 ?_
                refine step (v := .d (.int .i64 r4.2)) rfl ?_
                refine stepG (c := (!r5.2)) rfl hg11 ?_
                refine step (v := .d (.bool (r4.2 == 30))) rfl ?_
                refine stepG (c := seqB r9 a0) rfl (Bool.eq_false_iff.2 hg10) ?_
                refine step (v := .d (.bool (r4.2 == 30))) (st_pickT (b := (!r5.2)) rfl hg11 rfl) ?_
                refine step (v := .d (.bool (r4.2 == 30))) (st_pickF (b := seqB r9 a0) rfl hg10 rfl) ?_
                refine step (v := .d (.bool (r4.2 == 30))) rfl ?_
                have hh := Option.some.inj hv
                subst hh
                exact RunOps.nil' (Norm.mk [] (by decide) (by decide) (by decide) ⟨.d _, trivial⟩ trivial)
              · replace hv := iteF hg11 hv
                refine stepX (c := (!r5.2)) rfl hg11 ?_
                refine stepX (c := (!r5.2)) rfl hg11 ?_
                refine stepG (c := seqB r9 a0) rfl (Bool.eq_false_iff.2 hg10) ?_
                refine step (v := .d (.bool false)) (st_pickF (b := (!r5.2)) rfl hg11 rfl) ?_
                refine step (v := .d (.bool false)) (st_pickF (b := seqB r9 a0) rfl hg10 rfl) ?_
                refine step (v := .d (.bool false)) rfl ?_
                have hh := Option.some.inj hv
                subst hh
                exact RunOps.nil' (Norm.mk [] (by decide) (by decide) (by decide) ⟨.d _, trivial⟩ trivial)
          · replace hv := iteF hg8 hv
            refine stepX (c := r5.2) rfl hg8 ?_
            refine stepX (c := r5.2) rfl hg8 ?_
            refine stepX (c := r5.2) rfl hg8 ?_
            refine stepX (c := r5.2) rfl hg8 ?_
            refine step (v := .d (.bool false)) (st_pickF (b := r5.2) rfl hg8 rfl) ?_
            refine step (v := .d (.bool false)) rfl ?_
            refine stepG (c := false) rfl rfl ?_
            refine step (v := .d (.bool r5.2)) rfl ?_
            refine stepG (c := false) rfl rfl ?_
            refine step (v := .d (.bool (!r5.2))) rfl ?_
            refine stepG (c := false) rfl rfl ?_
            refine step (v := .d (.bool (!r5.2))) rfl ?_
            by_cases hg12 : (!r5.2) = true
            · replace hv := iteT hg12 hv
              refine stepG (c := (!r5.2)) rfl hg12 ?_
              refine step (v := .d (.int .i64 r4.2)) rfl ?_
              refine stepG (c := (!r5.2)) rfl hg12 ?_
              refine step (v := .d (.bool (r4.2 == 30))) rfl ?_
              refine stepG (c := false) rfl rfl ?_
              refine step (v := .d (.bool (r4.2 == 30))) (st_pickT (b := (!r5.2)) rfl hg12 rfl) ?_
              refine step (v := .d (.bool (r4.2 == 30))) (st_pickF (b := false) rfl (by decide) rfl) ?_
              refine step (v := .d (.bool (r4.2 == 30))) rfl ?_
              have hh := Option.some.inj hv
              subst hh
              exact RunOps.nil' (Norm.mk [] (by decide) (by decide) (by decide) ⟨.d _, trivial⟩ trivial)
            · replace hv := iteF hg12 hv
              refine stepX (c := (!r5.2)) rfl hg12 ?_
              refine stepX (c := (!r5.2)) rfl hg12 ?_
              refine stepG (c := false) rfl rfl ?_
              refine step (v := .d (.bool false)) (st_pickF (b := (!r5.2)) rfl hg12 rfl) ?_
              refine step (v := .d (.bool false)) (st_pickF (b := false) rfl (by decide) rfl) ?_
              refine step (v := .d (.bool false)) rfl ?_
              have hh := Option.some.inj hv
              subst hh
              exact RunOps.nil' (Norm.mk [] (by decide) (by decide) (by decide) ⟨.d _, trivial⟩ trivial)
        have hh := Option.some.inj h
        subst hh
        refine NWp.ret ?_
        show FQ _ _ _ _
        exact FQ.mk1 (.inr rfl) (res_t (v := .d (.bool y13)) rfl rfl) (RV.d trivial)


end Go.AM
