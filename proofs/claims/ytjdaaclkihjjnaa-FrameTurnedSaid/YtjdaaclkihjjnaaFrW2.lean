import Derived.Test.YtjdaaclkihjjnaaFrW1
/-  What they are in the program: walks. -/
set_option linter.unusedVariables false
set_option linter.unusedSimpArgs false
namespace Go.AM
open Go Go.RowKit Go.Proofs

attribute [local irreducible] RunOps RunOpsL

theorem c_law03_FrameTurned {a0 : api_Frame} {a1 : Int} {a2 : Int} {r : Bool} (h : law03_FrameTurned a0 a1 a2 = some r) : PCall Try.prog 7 [eapi_Frame a0, .int .u8 a1, .int .u8 a2] (.bool r) := by
  refine PCall.introN ok7 (show 3 ≤ 70 by decide) ?_
  refine NWp.norm (s0 := ⟨tab [(0, .d (eapi_Frame a0)), (1, .d (.int .u8 a1)), (2, .d (.int .u8 a2))], stab [], 0⟩) (Norm.mk [] (by decide) (by decide) (by decide) ⟨.d _, .d _, .d _, trivial⟩ trivial) ?_
  refine NWp.opsJ ⟨tab [(1, .d (.int .u8 a1)), (2, .d (.int .u8 a2)), (3, .d (.cptr (some 11) (eapi_Frame a0) 0))], stab [], 0⟩ ?_ ?_
  · refine step (v := .d (.cptr (some 11) (eapi_Frame a0) 0)) rfl ?_
    refine step (v := .d (.bool false)) rfl ?_
    exact RunOps.nil' (Norm.mk [] (by decide) (by decide) (by decide) ⟨.d _, .d _, .d _, trivial⟩ trivial)
  refine NWp.seq ?_
  obtain ⟨r1, hr1, h⟩ := bindE h
  refine NWp.opsJ ⟨tab [(1, .d (.int .u8 a1)), (2, .d (.int .u8 a2)), (3, .d (.cptr (some 11) (eapi_Frame a0) 0)), (16, .d (.bool (!r1)))], stab [], 0⟩ ?_ ?_
  · refine stepC (r := .bool r1) ArgsOk.nil' (c_law03_awake hr1) ?_
    refine step (v := .d (.bool (!r1))) rfl ?_
    exact RunOps.nil' (Norm.mk [] (by decide) (by decide) (by decide) ⟨.d _, .d _, .d _, .d _, trivial⟩ trivial)
  by_cases hc2 : (!r1) = true
  · replace h := iteT hc2 h
    refine NWp.condT (t := (!r1)) rfl hc2 ?_
    refine NWp.opsJ ⟨tab [(6, .d (.bool false))], stab [], 0⟩ ?_ ?_
    · refine step (v := .d (.bool false)) rfl ?_
      exact RunOps.nil' (Norm.mk [] (by decide) (by decide) (by decide) ⟨.d _, trivial⟩ trivial)
    have hh := Option.some.inj h
    subst hh
    refine NWp.ret ?_
    show FQ _ _ _ _
    exact FQ.mk1 (.inr rfl) (res_t (v := .d (.bool false)) rfl rfl) (RV.d trivial)
  · replace h := iteF hc2 h
    refine NWp.condF (t := (!r1)) rfl hc2 ?_
    refine NWp.skip ?_
    obtain ⟨r3, hr3, h⟩ := bindE h
    refine NWp.opsJ ⟨tab [(1, .d (.int .u8 a1)), (2, .d (.int .u8 a2)), (7, .d (.str r3))], stab [], 0⟩ ?_ ?_
    · refine step (v := .d (eapi_Frame a0)) rfl ?_
      refine stepC (r := .str r3) (ArgsOk.dt ArgsOk.nil') (c_frame_Encode hr3) ?_
      refine step (v := .d (.str r3)) rfl ?_
      exact RunOps.nil' (Norm.mk [] (by decide) (by decide) (by decide) ⟨.d _, .d _, .d _, trivial⟩ trivial)
    refine NWp.seq ?_
    refine NWp.opsJ ⟨tab [(1, .d (.int .u8 a1)), (2, .d (.int .u8 a2)), (7, .d (.str r3)), (20, .d (.bool (a2 == 0)))], stab [], 0⟩ ?_ ?_
    · refine step (v := .d (.int .u8 a2)) rfl ?_
      refine step (v := .d (.bool (a2 == 0))) rfl ?_
      exact RunOps.nil' (Norm.mk [] (by decide) (by decide) (by decide) ⟨.d _, .d _, .d _, .d _, trivial⟩ trivial)
    by_cases hc4 : (a2 == 0) = true
    · replace h := iteT hc4 h
      refine NWp.condT (t := (a2 == 0)) rfl hc4 ?_
      refine NWp.opsJ ⟨tab [(6, .d (.bool true))], stab [], 0⟩ ?_ ?_
      · refine step (v := .d (.bool true)) rfl ?_
        exact RunOps.nil' (Norm.mk [] (by decide) (by decide) (by decide) ⟨.d _, trivial⟩ trivial)
      have hh := Option.some.inj h
      subst hh
      refine NWp.ret ?_
      show FQ _ _ _ _
      exact FQ.mk1 (.inr rfl) (res_t (v := .d (.bool true)) rfl rfl) (RV.d trivial)
    · replace h := iteF hc4 h
      refine NWp.condF (t := (a2 == 0)) rfl hc4 ?_
      refine NWp.skip ?_
      obtain ⟨l5, hl5, h⟩ := bindE h
      refine NWp.opsJ ⟨tab [(1, .d (.int .u8 a1)), (2, .d (.int .u8 a2)), (7, .d (.str r3)), (8, .loc 0 0 l5.length)], stab [(0, .lst true none (List.map (D.int .u8) l5))], 1⟩ ?_ ?_
      · refine step (v := .d (.str r3)) rfl ?_
        refine step (v := .loc 0 0 l5.length) (σ' := (upd (stab []) 0 (some (.lst true none (List.map (D.int .u8) l5))))) (n' := 1) (st_s2b' hl5 rfl) ?_
        refine step (v := .loc 0 0 l5.length) rfl ?_
        exact RunOps.nil' (Norm.mk [0] (by decide) (by decide) (by decide) ⟨.d _, .d _, .d _, .loc 0 _ _ (show 0 < 1 by decide), trivial⟩ ⟨⟨show 0 < 1 by decide, _, rfl, .lst _ _ _⟩, trivial⟩)
      obtain ⟨q6, hq6, h⟩ := bindE h
      obtain ⟨x7, hx7, h⟩ := bindE h
      obtain ⟨l8, hl8, h⟩ := bindE h
      refine NWp.opsJ ⟨tab [(1, .d (.int .u8 a1)), (2, .d (.int .u8 a2)), (7, .d (.str r3)), (8, .loc 0 0 l8.length)], stab [(0, .lst true none (List.map (D.int .u8) l8))], 1⟩ ?_ ?_
      · refine step (v := .loc 0 0 l5.length) rfl ?_
        refine step (v := .d (.int .u8 a1)) rfl ?_
        refine step (v := .d (.int .i64 (IntKind.i64.wrap a1))) rfl ?_
        refine step (v := .loc 0 0 l5.length) rfl ?_
        refine step (v := .d (.int .i64 (l5.length : Int))) rfl ?_
        refine step (v := .d (.int .i64 q6)) (st_rem hq6 rfl rfl) ?_
        refine step (v := .ptr 0 q6.toNat 0) (st_iaddrL (xs := l5) (e := (D.int .u8)) hx7 rfl rfl rfl rfl) ?_
        refine step (v := .d (.int .u8 x7)) (st_loadL (xs := l5) (e := (D.int .u8)) hx7 rfl rfl rfl) ?_
        refine step (v := .d (.int .u8 a2)) rfl ?_
        refine step (v := .d (.int .u8 (xorI .u8 x7 a2))) rfl ?_
        refine step (v := .ptr 0 q6.toNat 0) (st_iaddrL (xs := l5) (e := (D.int .u8)) hx7 rfl rfl rfl rfl) ?_
        refine step (v := V.undef) (σ' := (upd (stab [(0, .lst true none (List.map (D.int .u8) l5))]) 0 (some (.lst true none (List.map (D.int .u8) l8))))) (n' := 1) (st_storeL' (e := (D.int .u8)) (v' := xorI .u8 x7 a2) hl8 rfl rfl rfl rfl rfl) ?_
        exact RunOps.nil' (Norm.mk [0] (by decide) (by decide) (by decide) ⟨.d _, .d _, .d _, .le (id := 0) (gput_len hl8).symm (show 0 < 1 by decide), trivial⟩ ⟨⟨show 0 < 1 by decide, _, rfl, .lst _ _ _⟩, trivial⟩)
      obtain ⟨r9, hr9, h⟩ := bindE h
      refine NWp.opsJ ⟨tab [(1, .d (.int .u8 a1)), (2, .d (.int .u8 a2)), (7, .d (.str r3)), (10, .d (.int .i64 r9.2))], stab [], 0⟩ ?_ ?_
      · refine step (v := .loc 0 0 l8.length) rfl ?_
        refine step (v := .d (.str (strOfB l8))) (st_b2sL (xs := l8) rfl rfl rfl) ?_
        refine stepC (r := .tup [eapi_Frame r9.1, .int .i64 r9.2]) (ArgsOk.dt ArgsOk.nil') (c_frame_Decode hr9) ?_
        refine step (v := .d (.tup [eapi_Frame r9.1, .int .i64 r9.2])) rfl ?_
        refine step (v := .d (eapi_Frame r9.1)) rfl ?_
        refine step (v := .d (.int .i64 r9.2)) rfl ?_
        refine step (v := .ptr 1 0 0) (σ' := (upd (stab [(0, .lst true none (List.map (D.int .u8) l8))]) 1 (some (.var [.d (.int .u16 0), .d (.int .u16 0), .d (.int .u16 0), .d (.int .u16 0), .d (.int .u16 0), .d (.int .u16 0), .d (.int .u16 0), .d (.int .u16 0), .d (.bool false), .d (.int .u16 0), .d (.int .u64 0)])))) (n' := 2) rfl ?_
        refine step (v := V.undef) (σ' := (upd (upd (stab [(0, .lst true none (List.map (D.int .u8) l8))]) 1 (some (.var [.d (.int .u16 0), .d (.int .u16 0), .d (.int .u16 0), .d (.int .u16 0), .d (.int .u16 0), .d (.int .u16 0), .d (.int .u16 0), .d (.int .u16 0), .d (.bool false), .d (.int .u16 0), .d (.int .u64 0)]))) 1 (some (.var [.d (.int .u16 r9.1.P.a0), .d (.int .u16 r9.1.P.a1), .d (.int .u16 r9.1.P.a2), .d (.int .u16 r9.1.P.a3), .d (.int .u16 r9.1.P.a4), .d (.int .u16 r9.1.P.a5), .d (.int .u16 r9.1.P.a6), .d (.int .u16 r9.1.P.a7), .d (.bool r9.1.Tagged), .d (.int .u16 r9.1.Tag), .d (.int .u64 r9.1.Digest)])))) (n' := 2) rfl ?_
        refine step (v := .d (.int .i64 r9.2)) rfl ?_
        exact RunOps.nil' (Norm.mk [] (by decide) (by decide) (by decide) ⟨.d _, .d _, .d _, .d _, trivial⟩ trivial)
      obtain ⟨q10, hq10, h⟩ := bindE h
      obtain ⟨s11, hs11, h⟩ := bindE h
      obtain ⟨r12, hr12, h⟩ := bindE h
      refine NWp.opsJ ⟨tab [(2, .d (.int .u8 a2)), (7, .d (.str r3)), (10, .d (.int .i64 r9.2)), (12, .d (.int .i64 r12.2))], stab [], 0⟩ ?_ ?_
      · refine step (v := .d (.str r3)) rfl ?_
        refine step (v := .d (.int .u8 a1)) rfl ?_
        refine step (v := .d (.int .i64 (IntKind.i64.wrap a1))) rfl ?_
        refine step (v := .d (.str r3)) rfl ?_
        refine step (v := .d (.int .i64 (r3.size : Int))) rfl ?_
        refine step (v := .d (.int .i64 q10)) (st_rem hq10 rfl rfl) ?_
        refine step (v := .d (.str s11)) (st_sstr hs11 rfl rfl ⟨_, rfl⟩) ?_
        refine stepC (r := .tup [eapi_Frame r12.1, .int .i64 r12.2]) (ArgsOk.dt ArgsOk.nil') (c_frame_Decode hr12) ?_
        refine step (v := .d (.tup [eapi_Frame r12.1, .int .i64 r12.2])) rfl ?_
        refine step (v := .d (eapi_Frame r12.1)) rfl ?_
        refine step (v := .d (.int .i64 r12.2)) rfl ?_
        refine step (v := .ptr 0 0 0) (σ' := (upd (stab []) 0 (some (.var [.d (.int .u16 0), .d (.int .u16 0), .d (.int .u16 0), .d (.int .u16 0), .d (.int .u16 0), .d (.int .u16 0), .d (.int .u16 0), .d (.int .u16 0), .d (.bool false), .d (.int .u16 0), .d (.int .u64 0)])))) (n' := 1) rfl ?_
        refine step (v := V.undef) (σ' := (upd (upd (stab []) 0 (some (.var [.d (.int .u16 0), .d (.int .u16 0), .d (.int .u16 0), .d (.int .u16 0), .d (.int .u16 0), .d (.int .u16 0), .d (.int .u16 0), .d (.int .u16 0), .d (.bool false), .d (.int .u16 0), .d (.int .u64 0)]))) 0 (some (.var [.d (.int .u16 r12.1.P.a0), .d (.int .u16 r12.1.P.a1), .d (.int .u16 r12.1.P.a2), .d (.int .u16 r12.1.P.a3), .d (.int .u16 r12.1.P.a4), .d (.int .u16 r12.1.P.a5), .d (.int .u16 r12.1.P.a6), .d (.int .u16 r12.1.P.a7), .d (.bool r12.1.Tagged), .d (.int .u16 r12.1.Tag), .d (.int .u64 r12.1.Digest)])))) (n' := 1) rfl ?_
        refine step (v := .d (.int .i64 r12.2)) rfl ?_
        exact RunOps.nil' (Norm.mk [] (by decide) (by decide) (by decide) ⟨.d _, .d _, .d _, .d _, trivial⟩ trivial)
      obtain ⟨s13, hs13, h⟩ := bindE h
      obtain ⟨r14, hr14, h⟩ := bindE h
      refine NWp.opsJ ⟨tab [(10, .d (.int .i64 r9.2)), (12, .d (.int .i64 r12.2)), (14, .d (.int .i64 r14.2))], stab [], 0⟩ ?_ ?_
      · refine step (v := .d (.str r3)) rfl ?_
        refine step (v := .d (.int .u8 a2)) rfl ?_
        refine step (v := .d (eL none (D.int .u8) ([a2] : List Int))) rfl ?_
        refine step (v := .d (.str (strOfB ([a2] : List Int)))) (st_b2s (xs := ([a2] : List Int)) rfl) ?_
        refine step (v := .d (.str s13)) (st_scat hs13 rfl rfl) ?_
        refine stepC (r := .tup [eapi_Frame r14.1, .int .i64 r14.2]) (ArgsOk.dt ArgsOk.nil') (c_frame_Decode hr14) ?_
        refine step (v := .d (.tup [eapi_Frame r14.1, .int .i64 r14.2])) rfl ?_
        refine step (v := .d (eapi_Frame r14.1)) rfl ?_
        refine step (v := .d (.int .i64 r14.2)) rfl ?_
        refine step (v := .ptr 0 0 0) (σ' := (upd (stab []) 0 (some (.var [.d (.int .u16 0), .d (.int .u16 0), .d (.int .u16 0), .d (.int .u16 0), .d (.int .u16 0), .d (.int .u16 0), .d (.int .u16 0), .d (.int .u16 0), .d (.bool false), .d (.int .u16 0), .d (.int .u64 0)])))) (n' := 1) rfl ?_
        refine step (v := V.undef) (σ' := (upd (upd (stab []) 0 (some (.var [.d (.int .u16 0), .d (.int .u16 0), .d (.int .u16 0), .d (.int .u16 0), .d (.int .u16 0), .d (.int .u16 0), .d (.int .u16 0), .d (.int .u16 0), .d (.bool false), .d (.int .u16 0), .d (.int .u64 0)]))) 0 (some (.var [.d (.int .u16 r14.1.P.a0), .d (.int .u16 r14.1.P.a1), .d (.int .u16 r14.1.P.a2), .d (.int .u16 r14.1.P.a3), .d (.int .u16 r14.1.P.a4), .d (.int .u16 r14.1.P.a5), .d (.int .u16 r14.1.P.a6), .d (.int .u16 r14.1.P.a7), .d (.bool r14.1.Tagged), .d (.int .u16 r14.1.Tag), .d (.int .u64 r14.1.Digest)])))) (n' := 1) rfl ?_
        refine step (v := .d (.int .i64 r14.2)) rfl ?_
        exact RunOps.nil' (Norm.mk [] (by decide) (by decide) (by decide) ⟨.d _, .d _, .d _, trivial⟩ trivial)
      refine NWp.opsJ ⟨tab [(6, .d (.bool ((r9.2 == 30) && ((r12.2 == 30) && (r14.2 == 30)))))], stab [], 0⟩ ?_ ?_
      · refine step (v := .d (.int .i64 r9.2)) rfl ?_
        refine step (v := .d (.bool (r9.2 == 30))) rfl ?_
        refine step (v := .d (.bool (r9.2 == 30))) rfl ?_
        by_cases hg15 : (r9.2 == 30) = true
        · refine stepG (c := (r9.2 == 30)) rfl hg15 ?_
          refine step (v := .d (.int .i64 r12.2)) rfl ?_
          refine stepG (c := (r9.2 == 30)) rfl hg15 ?_
          refine step (v := .d (.bool (r12.2 == 30))) rfl ?_
          refine step (v := .d (.bool (r12.2 == 30))) (st_pickT (b := (r9.2 == 30)) rfl hg15 rfl) ?_
          refine step (v := .d (.bool (r12.2 == 30))) rfl ?_
          by_cases hg16 : (r12.2 == 30) = true
          · refine stepG (c := (r12.2 == 30)) rfl hg16 ?_
            refine step (v := .d (.int .i64 r14.2)) rfl ?_
            refine stepG (c := (r12.2 == 30)) rfl hg16 ?_
            refine step (v := .d (.bool (r14.2 == 30))) rfl ?_
            refine step (v := .d (.bool (r14.2 == 30))) (st_pickT (b := (r12.2 == 30)) rfl hg16 rfl) ?_
            refine step (v := .d (.bool (r14.2 == 30))) rfl ?_
            exact RunOps.nil' (Norm.mk [] (by decide) (by decide) (by decide) ⟨.eq (by simp [hg15, hg16]), trivial⟩ trivial)
          · refine stepX (c := (r12.2 == 30)) rfl hg16 ?_
            refine stepX (c := (r12.2 == 30)) rfl hg16 ?_
            refine step (v := .d (.bool false)) (st_pickF (b := (r12.2 == 30)) rfl hg16 rfl) ?_
            refine step (v := .d (.bool false)) rfl ?_
            exact RunOps.nil' (Norm.mk [] (by decide) (by decide) (by decide) ⟨.eq (by simp [hg15, hg16]), trivial⟩ trivial)
        · refine stepX (c := (r9.2 == 30)) rfl hg15 ?_
          refine stepX (c := (r9.2 == 30)) rfl hg15 ?_
          refine step (v := .d (.bool false)) (st_pickF (b := (r9.2 == 30)) rfl hg15 rfl) ?_
          refine step (v := .d (.bool false)) rfl ?_
          refine stepX (c := false) rfl (by decide) ?_
          refine stepX (c := false) rfl (by decide) ?_
          refine step (v := .d (.bool false)) (st_pickF (b := false) rfl (by decide) rfl) ?_
          refine step (v := .d (.bool false)) rfl ?_
          exact RunOps.nil' (Norm.mk [] (by decide) (by decide) (by decide) ⟨.eq (by simp [hg15]), trivial⟩ trivial)
      have hh := Option.some.inj h
      subst hh
      refine NWp.ret ?_
      show FQ _ _ _ _
      exact FQ.mk1 (.inr rfl) (res_t (v := .d (.bool ((r9.2 == 30) && ((r12.2 == 30) && (r14.2 == 30))))) rfl rfl) (RV.d trivial)

theorem c_ref03_Clean {a0 : api_Frame} {r : api_Frame} (h : ref03_Clean a0 = some r) : PCall Try.prog 27 [eapi_Frame a0] (eapi_Frame r) := by
  refine PCall.introN ok27 (show 1 ≤ 13 by decide) ?_
  refine NWp.norm (s0 := ⟨tab [(0, .d (eapi_Frame a0))], stab [], 0⟩) (Norm.mk [] (by decide) (by decide) (by decide) ⟨.d _, trivial⟩ trivial) ?_
  refine NWp.opsJ ⟨tab [(1, .ptr 0 0 0), (2, .ptr 1 0 0)], stab [(0, .var [.d (.int .u16 a0.P.a0), .d (.int .u16 a0.P.a1), .d (.int .u16 a0.P.a2), .d (.int .u16 a0.P.a3), .d (.int .u16 a0.P.a4), .d (.int .u16 a0.P.a5), .d (.int .u16 a0.P.a6), .d (.int .u16 a0.P.a7), .d (.bool a0.Tagged), .d (.int .u16 a0.Tag), .d (.int .u64 a0.Digest)]), (1, .var [.d (.int .u16 0), .d (.int .u16 0), .d (.int .u16 0), .d (.int .u16 0), .d (.int .u16 0), .d (.int .u16 0), .d (.int .u16 0), .d (.int .u16 0), .d (.bool false), .d (.int .u16 0), .d (.int .u64 0)])], 2⟩ ?_ ?_
  · refine step (v := .ptr 0 0 0) (σ' := (upd (stab []) 0 (some (.var [.d (.int .u16 a0.P.a0), .d (.int .u16 a0.P.a1), .d (.int .u16 a0.P.a2), .d (.int .u16 a0.P.a3), .d (.int .u16 a0.P.a4), .d (.int .u16 a0.P.a5), .d (.int .u16 a0.P.a6), .d (.int .u16 a0.P.a7), .d (.bool a0.Tagged), .d (.int .u16 a0.Tag), .d (.int .u64 a0.Digest)])))) (n' := 1) rfl ?_
    refine step (v := .ptr 1 0 0) (σ' := (upd (upd (stab []) 0 (some (.var [.d (.int .u16 a0.P.a0), .d (.int .u16 a0.P.a1), .d (.int .u16 a0.P.a2), .d (.int .u16 a0.P.a3), .d (.int .u16 a0.P.a4), .d (.int .u16 a0.P.a5), .d (.int .u16 a0.P.a6), .d (.int .u16 a0.P.a7), .d (.bool a0.Tagged), .d (.int .u16 a0.Tag), .d (.int .u64 a0.Digest)]))) 1 (some (.var [.d (.int .u16 0), .d (.int .u16 0), .d (.int .u16 0), .d (.int .u16 0), .d (.int .u16 0), .d (.int .u16 0), .d (.int .u16 0), .d (.int .u16 0), .d (.bool false), .d (.int .u16 0), .d (.int .u64 0)])))) (n' := 2) rfl ?_
    exact RunOps.nil' (Norm.mk [0, 1] (by decide) (by decide) (by decide) ⟨.ptr 0 _ _ (show 0 < 2 by decide), .ptr 1 _ _ (show 1 < 2 by decide), trivial⟩ ⟨⟨show 0 < 2 by decide, _, rfl, .vars ⟨.d _, .d _, .d _, .d _, .d _, .d _, .d _, .d _, .d _, .d _, .d _, trivial⟩⟩, ⟨show 1 < 2 by decide, _, rfl, .vars ⟨.d _, .d _, .d _, .d _, .d _, .d _, .d _, .d _, .d _, .d _, .d _, trivial⟩⟩, trivial⟩)
  refine NWp.opsJ ⟨tab [(1, .ptr 0 0 0), (2, .ptr 1 0 0)], stab [(0, .var [.d (.int .u16 0), .d (.int .u16 a0.P.a1), .d (.int .u16 a0.P.a2), .d (.int .u16 a0.P.a3), .d (.int .u16 a0.P.a4), .d (.int .u16 a0.P.a5), .d (.int .u16 a0.P.a6), .d (.int .u16 a0.P.a7), .d (.bool a0.Tagged), .d (.int .u16 a0.Tag), .d (.int .u64 a0.Digest)]), (1, .var [.d (.int .u16 0), .d (.int .u16 0), .d (.int .u16 0), .d (.int .u16 0), .d (.int .u16 0), .d (.int .u16 0), .d (.int .u16 0), .d (.int .u16 0), .d (.bool false), .d (.int .u16 0), .d (.int .u64 0)])], 2⟩ ?_ ?_
  · refine step (v := .ptr 0 0 0) rfl ?_
    refine step (v := .ptr 0 0 0) rfl ?_
    refine step (v := V.undef) (σ' := (upd (stab [(0, .var [.d (.int .u16 a0.P.a0), .d (.int .u16 a0.P.a1), .d (.int .u16 a0.P.a2), .d (.int .u16 a0.P.a3), .d (.int .u16 a0.P.a4), .d (.int .u16 a0.P.a5), .d (.int .u16 a0.P.a6), .d (.int .u16 a0.P.a7), .d (.bool a0.Tagged), .d (.int .u16 a0.Tag), .d (.int .u64 a0.Digest)]), (1, .var [.d (.int .u16 0), .d (.int .u16 0), .d (.int .u16 0), .d (.int .u16 0), .d (.int .u16 0), .d (.int .u16 0), .d (.int .u16 0), .d (.int .u16 0), .d (.bool false), .d (.int .u16 0), .d (.int .u64 0)])]) 0 (some (.var [.d (.int .u16 0), .d (.int .u16 a0.P.a1), .d (.int .u16 a0.P.a2), .d (.int .u16 a0.P.a3), .d (.int .u16 a0.P.a4), .d (.int .u16 a0.P.a5), .d (.int .u16 a0.P.a6), .d (.int .u16 a0.P.a7), .d (.bool a0.Tagged), .d (.int .u16 a0.Tag), .d (.int .u64 a0.Digest)])))) (n' := 2) rfl ?_
    exact RunOps.nil' (Norm.mk [0, 1] (by decide) (by decide) (by decide) ⟨.ptr 0 _ _ (show 0 < 2 by decide), .ptr 1 _ _ (show 1 < 2 by decide), trivial⟩ ⟨⟨show 0 < 2 by decide, _, rfl, .vars ⟨.d _, .d _, .d _, .d _, .d _, .d _, .d _, .d _, .d _, .d _, .d _, trivial⟩⟩, ⟨show 1 < 2 by decide, _, rfl, .vars ⟨.d _, .d _, .d _, .d _, .d _, .d _, .d _, .d _, .d _, .d _, .d _, trivial⟩⟩, trivial⟩)
  refine NWp.opsJ ⟨tab [(1, .ptr 0 0 0), (2, .ptr 1 0 0)], stab [(0, .var [.d (.int .u16 0), .d (.int .u16 0), .d (.int .u16 a0.P.a2), .d (.int .u16 a0.P.a3), .d (.int .u16 a0.P.a4), .d (.int .u16 a0.P.a5), .d (.int .u16 a0.P.a6), .d (.int .u16 a0.P.a7), .d (.bool a0.Tagged), .d (.int .u16 a0.Tag), .d (.int .u64 a0.Digest)]), (1, .var [.d (.int .u16 0), .d (.int .u16 0), .d (.int .u16 0), .d (.int .u16 0), .d (.int .u16 0), .d (.int .u16 0), .d (.int .u16 0), .d (.int .u16 0), .d (.bool false), .d (.int .u16 0), .d (.int .u64 0)])], 2⟩ ?_ ?_
  · refine step (v := .ptr 0 0 0) rfl ?_
    refine step (v := .ptr 0 0 1) rfl ?_
    refine step (v := V.undef) (σ' := (upd (stab [(0, .var [.d (.int .u16 0), .d (.int .u16 a0.P.a1), .d (.int .u16 a0.P.a2), .d (.int .u16 a0.P.a3), .d (.int .u16 a0.P.a4), .d (.int .u16 a0.P.a5), .d (.int .u16 a0.P.a6), .d (.int .u16 a0.P.a7), .d (.bool a0.Tagged), .d (.int .u16 a0.Tag), .d (.int .u64 a0.Digest)]), (1, .var [.d (.int .u16 0), .d (.int .u16 0), .d (.int .u16 0), .d (.int .u16 0), .d (.int .u16 0), .d (.int .u16 0), .d (.int .u16 0), .d (.int .u16 0), .d (.bool false), .d (.int .u16 0), .d (.int .u64 0)])]) 0 (some (.var [.d (.int .u16 0), .d (.int .u16 0), .d (.int .u16 a0.P.a2), .d (.int .u16 a0.P.a3), .d (.int .u16 a0.P.a4), .d (.int .u16 a0.P.a5), .d (.int .u16 a0.P.a6), .d (.int .u16 a0.P.a7), .d (.bool a0.Tagged), .d (.int .u16 a0.Tag), .d (.int .u64 a0.Digest)])))) (n' := 2) rfl ?_
    exact RunOps.nil' (Norm.mk [0, 1] (by decide) (by decide) (by decide) ⟨.ptr 0 _ _ (show 0 < 2 by decide), .ptr 1 _ _ (show 1 < 2 by decide), trivial⟩ ⟨⟨show 0 < 2 by decide, _, rfl, .vars ⟨.d _, .d _, .d _, .d _, .d _, .d _, .d _, .d _, .d _, .d _, .d _, trivial⟩⟩, ⟨show 1 < 2 by decide, _, rfl, .vars ⟨.d _, .d _, .d _, .d _, .d _, .d _, .d _, .d _, .d _, .d _, .d _, trivial⟩⟩, trivial⟩)
  obtain ⟨y2, hv, h⟩ := bindE h
  refine NWp.seqN ⟨tab [(1, .ptr 0 0 0), (2, .ptr 1 0 0)], stab [(0, .var [.d (.int .u16 y2.P.a0), .d (.int .u16 y2.P.a1), .d (.int .u16 y2.P.a2), .d (.int .u16 y2.P.a3), .d (.int .u16 y2.P.a4), .d (.int .u16 y2.P.a5), .d (.int .u16 y2.P.a6), .d (.int .u16 y2.P.a7), .d (.bool y2.Tagged), .d (.int .u16 y2.Tag), .d (.int .u64 y2.Digest)]), (1, .var [.d (.int .u16 0), .d (.int .u16 0), .d (.int .u16 0), .d (.int .u16 0), .d (.int .u16 0), .d (.int .u16 0), .d (.int .u16 0), .d (.int .u16 0), .d (.bool false), .d (.int .u16 0), .d (.int .u64 0)])], 2⟩ ?_ ?_
  · replace h := hv
    refine NWp.opsJ ⟨tab [(1, .ptr 0 0 0), (2, .ptr 1 0 0), (9, .d (.bool (!a0.Tagged)))], stab [(0, .var [.d (.int .u16 0), .d (.int .u16 0), .d (.int .u16 a0.P.a2), .d (.int .u16 a0.P.a3), .d (.int .u16 a0.P.a4), .d (.int .u16 a0.P.a5), .d (.int .u16 a0.P.a6), .d (.int .u16 a0.P.a7), .d (.bool a0.Tagged), .d (.int .u16 a0.Tag), .d (.int .u64 a0.Digest)]), (1, .var [.d (.int .u16 0), .d (.int .u16 0), .d (.int .u16 0), .d (.int .u16 0), .d (.int .u16 0), .d (.int .u16 0), .d (.int .u16 0), .d (.int .u16 0), .d (.bool false), .d (.int .u16 0), .d (.int .u64 0)])], 2⟩ ?_ ?_
    · refine step (v := .ptr 0 0 8) rfl ?_
      refine step (v := .d (.bool a0.Tagged)) rfl ?_
      refine step (v := .d (.bool (!a0.Tagged))) rfl ?_
      exact RunOps.nil' (Norm.mk [0, 1] (by decide) (by decide) (by decide) ⟨.ptr 0 _ _ (show 0 < 2 by decide), .ptr 1 _ _ (show 1 < 2 by decide), .d _, trivial⟩ ⟨⟨show 0 < 2 by decide, _, rfl, .vars ⟨.d _, .d _, .d _, .d _, .d _, .d _, .d _, .d _, .d _, .d _, .d _, trivial⟩⟩, ⟨show 1 < 2 by decide, _, rfl, .vars ⟨.d _, .d _, .d _, .d _, .d _, .d _, .d _, .d _, .d _, .d _, .d _, trivial⟩⟩, trivial⟩)
    by_cases hc1 : (!a0.Tagged) = true
    · replace h := iteT hc1 h
      refine NWp.condT (t := (!a0.Tagged)) rfl hc1 ?_
      refine NWp.opsJ ⟨tab [(1, .ptr 0 0 0), (2, .ptr 1 0 0)], stab [(0, .var [.d (.int .u16 0), .d (.int .u16 0), .d (.int .u16 a0.P.a2), .d (.int .u16 a0.P.a3), .d (.int .u16 a0.P.a4), .d (.int .u16 a0.P.a5), .d (.int .u16 a0.P.a6), .d (.int .u16 a0.P.a7), .d (.bool a0.Tagged), .d (.int .u16 0), .d (.int .u64 a0.Digest)]), (1, .var [.d (.int .u16 0), .d (.int .u16 0), .d (.int .u16 0), .d (.int .u16 0), .d (.int .u16 0), .d (.int .u16 0), .d (.int .u16 0), .d (.int .u16 0), .d (.bool false), .d (.int .u16 0), .d (.int .u64 0)])], 2⟩ ?_ ?_
      · refine step (v := .ptr 0 0 9) rfl ?_
        refine step (v := V.undef) (σ' := (upd (stab [(0, .var [.d (.int .u16 0), .d (.int .u16 0), .d (.int .u16 a0.P.a2), .d (.int .u16 a0.P.a3), .d (.int .u16 a0.P.a4), .d (.int .u16 a0.P.a5), .d (.int .u16 a0.P.a6), .d (.int .u16 a0.P.a7), .d (.bool a0.Tagged), .d (.int .u16 a0.Tag), .d (.int .u64 a0.Digest)]), (1, .var [.d (.int .u16 0), .d (.int .u16 0), .d (.int .u16 0), .d (.int .u16 0), .d (.int .u16 0), .d (.int .u16 0), .d (.int .u16 0), .d (.int .u16 0), .d (.bool false), .d (.int .u16 0), .d (.int .u64 0)])]) 0 (some (.var [.d (.int .u16 0), .d (.int .u16 0), .d (.int .u16 a0.P.a2), .d (.int .u16 a0.P.a3), .d (.int .u16 a0.P.a4), .d (.int .u16 a0.P.a5), .d (.int .u16 a0.P.a6), .d (.int .u16 a0.P.a7), .d (.bool a0.Tagged), .d (.int .u16 0), .d (.int .u64 a0.Digest)])))) (n' := 2) rfl ?_
        exact RunOps.nil' (Norm.mk [0, 1] (by decide) (by decide) (by decide) ⟨.ptr 0 _ _ (show 0 < 2 by decide), .ptr 1 _ _ (show 1 < 2 by decide), trivial⟩ ⟨⟨show 0 < 2 by decide, _, rfl, .vars ⟨.d _, .d _, .d _, .d _, .d _, .d _, .d _, .d _, .d _, .d _, .d _, trivial⟩⟩, ⟨show 1 < 2 by decide, _, rfl, .vars ⟨.d _, .d _, .d _, .d _, .d _, .d _, .d _, .d _, .d _, .d _, .d _, trivial⟩⟩, trivial⟩)
      have hh := Option.some.inj h
      subst hh
      refine NWp.opsE ⟨tab [(1, .ptr 0 0 0), (2, .ptr 1 0 0)], stab [(0, .var [.d (.int .u16 ((api_Frame.mk (A8.mk 0 0 a0.P.a2 a0.P.a3 a0.P.a4 a0.P.a5 a0.P.a6 a0.P.a7) a0.Tagged 0 0).P.a0)), .d (.int .u16 ((api_Frame.mk (A8.mk 0 0 a0.P.a2 a0.P.a3 a0.P.a4 a0.P.a5 a0.P.a6 a0.P.a7) a0.Tagged 0 0).P.a1)), .d (.int .u16 ((api_Frame.mk (A8.mk 0 0 a0.P.a2 a0.P.a3 a0.P.a4 a0.P.a5 a0.P.a6 a0.P.a7) a0.Tagged 0 0).P.a2)), .d (.int .u16 ((api_Frame.mk (A8.mk 0 0 a0.P.a2 a0.P.a3 a0.P.a4 a0.P.a5 a0.P.a6 a0.P.a7) a0.Tagged 0 0).P.a3)), .d (.int .u16 ((api_Frame.mk (A8.mk 0 0 a0.P.a2 a0.P.a3 a0.P.a4 a0.P.a5 a0.P.a6 a0.P.a7) a0.Tagged 0 0).P.a4)), .d (.int .u16 ((api_Frame.mk (A8.mk 0 0 a0.P.a2 a0.P.a3 a0.P.a4 a0.P.a5 a0.P.a6 a0.P.a7) a0.Tagged 0 0).P.a5)), .d (.int .u16 ((api_Frame.mk (A8.mk 0 0 a0.P.a2 a0.P.a3 a0.P.a4 a0.P.a5 a0.P.a6 a0.P.a7) a0.Tagged 0 0).P.a6)), .d (.int .u16 ((api_Frame.mk (A8.mk 0 0 a0.P.a2 a0.P.a3 a0.P.a4 a0.P.a5 a0.P.a6 a0.P.a7) a0.Tagged 0 0).P.a7)), .d (.bool ((api_Frame.mk (A8.mk 0 0 a0.P.a2 a0.P.a3 a0.P.a4 a0.P.a5 a0.P.a6 a0.P.a7) a0.Tagged 0 0).Tagged)), .d (.int .u16 ((api_Frame.mk (A8.mk 0 0 a0.P.a2 a0.P.a3 a0.P.a4 a0.P.a5 a0.P.a6 a0.P.a7) a0.Tagged 0 0).Tag)), .d (.int .u64 ((api_Frame.mk (A8.mk 0 0 a0.P.a2 a0.P.a3 a0.P.a4 a0.P.a5 a0.P.a6 a0.P.a7) a0.Tagged 0 0).Digest))]), (1, .var [.d (.int .u16 0), .d (.int .u16 0), .d (.int .u16 0), .d (.int .u16 0), .d (.int .u16 0), .d (.int .u16 0), .d (.int .u16 0), .d (.int .u16 0), .d (.bool false), .d (.int .u16 0), .d (.int .u64 0)])], 2⟩ ?_ ?_
      · refine step (v := .ptr 0 0 10) rfl ?_
        refine step (v := V.undef) (σ' := (upd (stab [(0, .var [.d (.int .u16 0), .d (.int .u16 0), .d (.int .u16 a0.P.a2), .d (.int .u16 a0.P.a3), .d (.int .u16 a0.P.a4), .d (.int .u16 a0.P.a5), .d (.int .u16 a0.P.a6), .d (.int .u16 a0.P.a7), .d (.bool a0.Tagged), .d (.int .u16 0), .d (.int .u64 a0.Digest)]), (1, .var [.d (.int .u16 0), .d (.int .u16 0), .d (.int .u16 0), .d (.int .u16 0), .d (.int .u16 0), .d (.int .u16 0), .d (.int .u16 0), .d (.int .u16 0), .d (.bool false), .d (.int .u16 0), .d (.int .u64 0)])]) 0 (some (.var [.d (.int .u16 0), .d (.int .u16 0), .d (.int .u16 a0.P.a2), .d (.int .u16 a0.P.a3), .d (.int .u16 a0.P.a4), .d (.int .u16 a0.P.a5), .d (.int .u16 a0.P.a6), .d (.int .u16 a0.P.a7), .d (.bool a0.Tagged), .d (.int .u16 0), .d (.int .u64 0)])))) (n' := 2) rfl ?_
        exact RunOps.nil' (Norm.mk [0, 1] (by decide) (by decide) (by decide) ⟨.ptr 0 _ _ (show 0 < 2 by decide), .ptr 1 _ _ (show 1 < 2 by decide), trivial⟩ ⟨⟨show 0 < 2 by decide, _, rfl, .vars ⟨.d _, .d _, .d _, .d _, .d _, .d _, .d _, .d _, .d _, .d _, .d _, trivial⟩⟩, ⟨show 1 < 2 by decide, _, rfl, .vars ⟨.d _, .d _, .d _, .d _, .d _, .d _, .d _, .d _, .d _, .d _, .d _, trivial⟩⟩, trivial⟩)
      exact And.intro rfl rfl
    · replace h := iteF hc1 h
      refine NWp.condF (t := (!a0.Tagged)) rfl hc1 ?_
      have hh := Option.some.inj h
      subst hh
      refine NWp.norm (s0 := ⟨tab [(1, .ptr 0 0 0), (2, .ptr 1 0 0)], stab [(0, .var [.d (.int .u16 ((api_Frame.mk (A8.mk 0 0 a0.P.a2 a0.P.a3 a0.P.a4 a0.P.a5 a0.P.a6 a0.P.a7) a0.Tagged a0.Tag a0.Digest).P.a0)), .d (.int .u16 ((api_Frame.mk (A8.mk 0 0 a0.P.a2 a0.P.a3 a0.P.a4 a0.P.a5 a0.P.a6 a0.P.a7) a0.Tagged a0.Tag a0.Digest).P.a1)), .d (.int .u16 ((api_Frame.mk (A8.mk 0 0 a0.P.a2 a0.P.a3 a0.P.a4 a0.P.a5 a0.P.a6 a0.P.a7) a0.Tagged a0.Tag a0.Digest).P.a2)), .d (.int .u16 ((api_Frame.mk (A8.mk 0 0 a0.P.a2 a0.P.a3 a0.P.a4 a0.P.a5 a0.P.a6 a0.P.a7) a0.Tagged a0.Tag a0.Digest).P.a3)), .d (.int .u16 ((api_Frame.mk (A8.mk 0 0 a0.P.a2 a0.P.a3 a0.P.a4 a0.P.a5 a0.P.a6 a0.P.a7) a0.Tagged a0.Tag a0.Digest).P.a4)), .d (.int .u16 ((api_Frame.mk (A8.mk 0 0 a0.P.a2 a0.P.a3 a0.P.a4 a0.P.a5 a0.P.a6 a0.P.a7) a0.Tagged a0.Tag a0.Digest).P.a5)), .d (.int .u16 ((api_Frame.mk (A8.mk 0 0 a0.P.a2 a0.P.a3 a0.P.a4 a0.P.a5 a0.P.a6 a0.P.a7) a0.Tagged a0.Tag a0.Digest).P.a6)), .d (.int .u16 ((api_Frame.mk (A8.mk 0 0 a0.P.a2 a0.P.a3 a0.P.a4 a0.P.a5 a0.P.a6 a0.P.a7) a0.Tagged a0.Tag a0.Digest).P.a7)), .d (.bool ((api_Frame.mk (A8.mk 0 0 a0.P.a2 a0.P.a3 a0.P.a4 a0.P.a5 a0.P.a6 a0.P.a7) a0.Tagged a0.Tag a0.Digest).Tagged)), .d (.int .u16 ((api_Frame.mk (A8.mk 0 0 a0.P.a2 a0.P.a3 a0.P.a4 a0.P.a5 a0.P.a6 a0.P.a7) a0.Tagged a0.Tag a0.Digest).Tag)), .d (.int .u64 ((api_Frame.mk (A8.mk 0 0 a0.P.a2 a0.P.a3 a0.P.a4 a0.P.a5 a0.P.a6 a0.P.a7) a0.Tagged a0.Tag a0.Digest).Digest))]), (1, .var [.d (.int .u16 0), .d (.int .u16 0), .d (.int .u16 0), .d (.int .u16 0), .d (.int .u16 0), .d (.int .u16 0), .d (.int .u16 0), .d (.int .u16 0), .d (.bool false), .d (.int .u16 0), .d (.int .u64 0)])], 2⟩) (Norm.mk [0, 1] (by decide) (by decide) (by decide) ⟨.ptr 0 _ _ (show 0 < 2 by decide), .ptr 1 _ _ (show 1 < 2 by decide), trivial⟩ ⟨⟨show 0 < 2 by decide, _, rfl, .vars ⟨.d _, .d _, .d _, .d _, .d _, .d _, .d _, .d _, .d _, .d _, .d _, trivial⟩⟩, ⟨show 1 < 2 by decide, _, rfl, .vars ⟨.d _, .d _, .d _, .d _, .d _, .d _, .d _, .d _, .d _, .d _, .d _, trivial⟩⟩, trivial⟩) ?_
      refine NWp.skip ?_
      exact And.intro rfl rfl
  refine NWp.opsJ ⟨tab [(2, .ptr 0 0 0)], stab [(0, .var [.d (.int .u16 y2.P.a0), .d (.int .u16 y2.P.a1), .d (.int .u16 y2.P.a2), .d (.int .u16 y2.P.a3), .d (.int .u16 y2.P.a4), .d (.int .u16 y2.P.a5), .d (.int .u16 y2.P.a6), .d (.int .u16 y2.P.a7), .d (.bool y2.Tagged), .d (.int .u16 y2.Tag), .d (.int .u64 y2.Digest)])], 1⟩ ?_ ?_
  · refine step (v := .d (eapi_Frame y2)) (st_ldV (ds := [.int .u16 y2.P.a0, .int .u16 y2.P.a1, .int .u16 y2.P.a2, .int .u16 y2.P.a3, .int .u16 y2.P.a4, .int .u16 y2.P.a5, .int .u16 y2.P.a6, .int .u16 y2.P.a7, .bool y2.Tagged, .int .u16 y2.Tag, .int .u64 y2.Digest]) rfl rfl (show 11 ≤ 11 by decide) rfl) ?_
    refine step (v := V.undef) (σ' := (upd (stab [(0, .var [.d (.int .u16 y2.P.a0), .d (.int .u16 y2.P.a1), .d (.int .u16 y2.P.a2), .d (.int .u16 y2.P.a3), .d (.int .u16 y2.P.a4), .d (.int .u16 y2.P.a5), .d (.int .u16 y2.P.a6), .d (.int .u16 y2.P.a7), .d (.bool y2.Tagged), .d (.int .u16 y2.Tag), .d (.int .u64 y2.Digest)]), (1, .var [.d (.int .u16 0), .d (.int .u16 0), .d (.int .u16 0), .d (.int .u16 0), .d (.int .u16 0), .d (.int .u16 0), .d (.int .u16 0), .d (.int .u16 0), .d (.bool false), .d (.int .u16 0), .d (.int .u64 0)])]) 1 (some (.var [.d (.int .u16 y2.P.a0), .d (.int .u16 y2.P.a1), .d (.int .u16 y2.P.a2), .d (.int .u16 y2.P.a3), .d (.int .u16 y2.P.a4), .d (.int .u16 y2.P.a5), .d (.int .u16 y2.P.a6), .d (.int .u16 y2.P.a7), .d (.bool y2.Tagged), .d (.int .u16 y2.Tag), .d (.int .u64 y2.Digest)])))) (n' := 2) rfl ?_
    exact RunOps.nil' (Norm.mk [1] (by decide) (by decide) (by decide) ⟨.ptr 0 _ _ (show 0 < 1 by decide), trivial⟩ ⟨⟨show 0 < 1 by decide, _, rfl, .vars ⟨.d _, .d _, .d _, .d _, .d _, .d _, .d _, .d _, .d _, .d _, .d _, trivial⟩⟩, trivial⟩)
  have hh := Option.some.inj h
  subst hh
  refine NWp.ret ?_
  show FQ _ _ _ _
  exact FQ.mk1 (.inr rfl) (res_cell (ds := [.int .u16 y2.P.a0, .int .u16 y2.P.a1, .int .u16 y2.P.a2, .int .u16 y2.P.a3, .int .u16 y2.P.a4, .int .u16 y2.P.a5, .int .u16 y2.P.a6, .int .u16 y2.P.a7, .bool y2.Tagged, .int .u16 y2.Tag, .int .u64 y2.Digest]) rfl rfl (show 11 ≤ 11 by decide) rfl rfl) (RV.d trivial)

theorem c_frame_Bare {a0 : (A8 Int)} {r : api_Frame} (h : frame_Bare a0 = some r) : PCall Try.prog 28 [eA8 (D.int .u16) a0] (eapi_Frame r) := by
  refine PCall.introN ok28 (show 1 ≤ 7 by decide) ?_
  refine NWp.norm (s0 := ⟨tab [(0, .d (eA8 (D.int .u16) a0))], stab [], 0⟩) (Norm.mk [] (by decide) (by decide) (by decide) ⟨.d _, trivial⟩ trivial) ?_
  refine NWp.opsJ ⟨tab [(1, .d (.cptr (some 8) (eA8 (D.int .u16) a0) 0)), (2, .ptr 0 0 0)], stab [(0, .var [.d (.int .u16 0), .d (.int .u16 0), .d (.int .u16 0), .d (.int .u16 0), .d (.int .u16 0), .d (.int .u16 0), .d (.int .u16 0), .d (.int .u16 0), .d (.bool false), .d (.int .u16 0), .d (.int .u64 0)])], 1⟩ ?_ ?_
  · refine step (v := .d (.cptr (some 8) (eA8 (D.int .u16) a0) 0)) rfl ?_
    refine step (v := .ptr 0 0 0) (σ' := (upd (stab []) 0 (some (.var [.d (.int .u16 0), .d (.int .u16 0), .d (.int .u16 0), .d (.int .u16 0), .d (.int .u16 0), .d (.int .u16 0), .d (.int .u16 0), .d (.int .u16 0), .d (.bool false), .d (.int .u16 0), .d (.int .u64 0)])))) (n' := 1) rfl ?_
    exact RunOps.nil' (Norm.mk [0] (by decide) (by decide) (by decide) ⟨.d _, .ptr 0 _ _ (show 0 < 1 by decide), trivial⟩ ⟨⟨show 0 < 1 by decide, _, rfl, .vars ⟨.d _, .d _, .d _, .d _, .d _, .d _, .d _, .d _, .d _, .d _, .d _, trivial⟩⟩, trivial⟩)
  obtain ⟨r1, hr1, h⟩ := bindE h
  refine NWp.opsJ ⟨tab [(2, .ptr 0 0 0)], stab [(0, .var [.d (.int .u16 r1.a0), .d (.int .u16 r1.a1), .d (.int .u16 r1.a2), .d (.int .u16 r1.a3), .d (.int .u16 r1.a4), .d (.int .u16 r1.a5), .d (.int .u16 r1.a6), .d (.int .u16 r1.a7), .d (.bool false), .d (.int .u16 0), .d (.int .u64 0)])], 1⟩ ?_ ?_
  · refine step (v := .d (eA8 (D.int .u16) a0)) rfl ?_
    refine step (v := .d (eapi_Port (api_Port.mk 0 0))) (st_build (ds := [.int .u16 0, .int .u16 0]) rfl) ?_
    refine stepC (r := eA8 (D.int .u16) r1) (ArgsOk.dt (ArgsOk.dt ArgsOk.nil')) (c_packet_To hr1) ?_
    refine step (v := .d (eapi_Frame (api_Frame.mk r1 false 0 0))) (st_build (ds := [.int .u16 r1.a0, .int .u16 r1.a1, .int .u16 r1.a2, .int .u16 r1.a3, .int .u16 r1.a4, .int .u16 r1.a5, .int .u16 r1.a6, .int .u16 r1.a7, .bool false, .int .u16 0, .int .u64 0]) rfl) ?_
    refine step (v := V.undef) (σ' := (upd (stab [(0, .var [.d (.int .u16 0), .d (.int .u16 0), .d (.int .u16 0), .d (.int .u16 0), .d (.int .u16 0), .d (.int .u16 0), .d (.int .u16 0), .d (.int .u16 0), .d (.bool false), .d (.int .u16 0), .d (.int .u64 0)])]) 0 (some (.var [.d (.int .u16 r1.a0), .d (.int .u16 r1.a1), .d (.int .u16 r1.a2), .d (.int .u16 r1.a3), .d (.int .u16 r1.a4), .d (.int .u16 r1.a5), .d (.int .u16 r1.a6), .d (.int .u16 r1.a7), .d (.bool false), .d (.int .u16 0), .d (.int .u64 0)])))) (n' := 1) rfl ?_
    exact RunOps.nil' (Norm.mk [0] (by decide) (by decide) (by decide) ⟨.ptr 0 _ _ (show 0 < 1 by decide), trivial⟩ ⟨⟨show 0 < 1 by decide, _, rfl, .vars ⟨.d _, .d _, .d _, .d _, .d _, .d _, .d _, .d _, .d _, .d _, .d _, trivial⟩⟩, trivial⟩)
  have hh := Option.some.inj h
  subst hh
  refine NWp.ret ?_
  show FQ _ _ _ _
  exact FQ.mk1 (.inr rfl) (res_cell (ds := [.int .u16 r1.a0, .int .u16 r1.a1, .int .u16 r1.a2, .int .u16 r1.a3, .int .u16 r1.a4, .int .u16 r1.a5, .int .u16 r1.a6, .int .u16 r1.a7, .bool false, .int .u16 0, .int .u64 0]) rfl rfl (show 11 ≤ 11 by decide) rfl rfl) (RV.d trivial)

theorem c_law03_FrameBack {a0 : api_Frame} {r : Bool} (h : law03_FrameBack a0 = some r) : PCall Try.prog 8 [eapi_Frame a0] (.bool r) := by
  refine PCall.introN ok8 (show 1 ≤ 57 by decide) ?_
  refine NWp.norm (s0 := ⟨tab [(0, .d (eapi_Frame a0))], stab [], 0⟩) (Norm.mk [] (by decide) (by decide) (by decide) ⟨.d _, trivial⟩ trivial) ?_
  refine NWp.opsJ ⟨tab [(1, .d (.cptr (some 11) (eapi_Frame a0) 0))], stab [], 0⟩ ?_ ?_
  · refine step (v := .d (.cptr (some 11) (eapi_Frame a0) 0)) rfl ?_
    refine step (v := .d (.bool false)) rfl ?_
    exact RunOps.nil' (Norm.mk [] (by decide) (by decide) (by decide) ⟨.d _, trivial⟩ trivial)
  refine NWp.seq ?_
  obtain ⟨r1, hr1, h⟩ := bindE h
  refine NWp.opsJ ⟨tab [(1, .d (.cptr (some 11) (eapi_Frame a0) 0)), (7, .d (.bool (!r1)))], stab [], 0⟩ ?_ ?_
  · refine stepC (r := .bool r1) ArgsOk.nil' (c_law03_awake hr1) ?_
    refine step (v := .d (.bool (!r1))) rfl ?_
    exact RunOps.nil' (Norm.mk [] (by decide) (by decide) (by decide) ⟨.d _, .d _, trivial⟩ trivial)
  by_cases hc2 : (!r1) = true
  · replace h := iteT hc2 h
    refine NWp.condT (t := (!r1)) rfl hc2 ?_
    refine NWp.opsJ ⟨tab [(2, .d (.bool false))], stab [], 0⟩ ?_ ?_
    · refine step (v := .d (.bool false)) rfl ?_
      exact RunOps.nil' (Norm.mk [] (by decide) (by decide) (by decide) ⟨.d _, trivial⟩ trivial)
    have hh := Option.some.inj h
    subst hh
    refine NWp.ret ?_
    show FQ _ _ _ _
    exact FQ.mk1 (.inr rfl) (res_t (v := .d (.bool false)) rfl rfl) (RV.d trivial)
  · replace h := iteF hc2 h
    refine NWp.condF (t := (!r1)) rfl hc2 ?_
    refine NWp.skip ?_
    obtain ⟨r3, hr3, h⟩ := bindE h
    refine NWp.opsJ ⟨tab [(1, .d (.cptr (some 11) (eapi_Frame a0) 0)), (3, .d (.str r3))], stab [], 0⟩ ?_ ?_
    · refine step (v := .d (eapi_Frame a0)) rfl ?_
      refine stepC (r := .str r3) (ArgsOk.dt ArgsOk.nil') (c_frame_Encode hr3) ?_
      refine step (v := .d (.str r3)) rfl ?_
      exact RunOps.nil' (Norm.mk [] (by decide) (by decide) (by decide) ⟨.d _, .d _, trivial⟩ trivial)
    obtain ⟨r4, hr4, h⟩ := bindE h
    refine NWp.opsJ ⟨tab [(1, .d (.cptr (some 11) (eapi_Frame a0) 0)), (3, .d (.str r3)), (4, .ptr 0 0 0), (5, .d (.int .i64 r4.2))], stab [(0, .var [.d (.int .u16 r4.1.P.a0), .d (.int .u16 r4.1.P.a1), .d (.int .u16 r4.1.P.a2), .d (.int .u16 r4.1.P.a3), .d (.int .u16 r4.1.P.a4), .d (.int .u16 r4.1.P.a5), .d (.int .u16 r4.1.P.a6), .d (.int .u16 r4.1.P.a7), .d (.bool r4.1.Tagged), .d (.int .u16 r4.1.Tag), .d (.int .u64 r4.1.Digest)])], 1⟩ ?_ ?_
    · refine step (v := .d (.str r3)) rfl ?_
      refine stepC (r := .tup [eapi_Frame r4.1, .int .i64 r4.2]) (ArgsOk.dt ArgsOk.nil') (c_frame_Decode hr4) ?_
      refine step (v := .d (.tup [eapi_Frame r4.1, .int .i64 r4.2])) rfl ?_
      refine step (v := .d (eapi_Frame r4.1)) rfl ?_
      refine step (v := .d (.int .i64 r4.2)) rfl ?_
      refine step (v := .ptr 0 0 0) (σ' := (upd (stab []) 0 (some (.var [.d (.int .u16 0), .d (.int .u16 0), .d (.int .u16 0), .d (.int .u16 0), .d (.int .u16 0), .d (.int .u16 0), .d (.int .u16 0), .d (.int .u16 0), .d (.bool false), .d (.int .u16 0), .d (.int .u64 0)])))) (n' := 1) rfl ?_
      refine step (v := V.undef) (σ' := (upd (upd (stab []) 0 (some (.var [.d (.int .u16 0), .d (.int .u16 0), .d (.int .u16 0), .d (.int .u16 0), .d (.int .u16 0), .d (.int .u16 0), .d (.int .u16 0), .d (.int .u16 0), .d (.bool false), .d (.int .u16 0), .d (.int .u64 0)]))) 0 (some (.var [.d (.int .u16 r4.1.P.a0), .d (.int .u16 r4.1.P.a1), .d (.int .u16 r4.1.P.a2), .d (.int .u16 r4.1.P.a3), .d (.int .u16 r4.1.P.a4), .d (.int .u16 r4.1.P.a5), .d (.int .u16 r4.1.P.a6), .d (.int .u16 r4.1.P.a7), .d (.bool r4.1.Tagged), .d (.int .u16 r4.1.Tag), .d (.int .u64 r4.1.Digest)])))) (n' := 1) rfl ?_
      refine step (v := .d (.int .i64 r4.2)) rfl ?_
      exact RunOps.nil' (Norm.mk [0] (by decide) (by decide) (by decide) ⟨.d _, .d _, .ptr 0 _ _ (show 0 < 1 by decide), .d _, trivial⟩ ⟨⟨show 0 < 1 by decide, _, rfl, .vars ⟨.d _, .d _, .d _, .d _, .d _, .d _, .d _, .d _, .d _, .d _, .d _, trivial⟩⟩, trivial⟩)
    obtain ⟨r5, hr5, h⟩ := bindE h
    obtain ⟨y15, hv, h⟩ := bindE h
    refine NWp.opsJ ⟨tab [(2, .d (.bool y15))], stab [], 0⟩ ?_ ?_
    · refine step (v := .d (.str r3)) rfl ?_
      refine step (v := .d (eapi_Frame a0)) rfl ?_
      refine stepC (r := .str r5) (ArgsOk.dt ArgsOk.nil') (c_ref03_Encode hr5) ?_
      refine step (v := .d (.bool (seqB r3 r5))) rfl ?_
      refine step (v := .d (.bool (seqB r3 r5))) rfl ?_
      by_cases hg6 : seqB r3 r5 = true
      · replace hv := iteT hg6 hv
        refine stepG (c := seqB r3 r5) rfl hg6 ?_
        refine step (v := .d (.int .i64 r4.2)) rfl ?_
        refine stepG (c := seqB r3 r5) rfl hg6 ?_
        refine step (v := .d (.bool (r4.2 == 0))) rfl ?_
        refine step (v := .d (.bool (r4.2 == 0))) (st_pickT (b := seqB r3 r5) rfl hg6 rfl) ?_
        refine step (v := .d (.bool (r4.2 == 0))) rfl ?_
        by_cases hg7 : (r4.2 == 0) = true
        · replace hv := iteT hg7 hv
          obtain ⟨r8, hr8, hv⟩ := bindE hv
          refine stepG (c := (r4.2 == 0)) rfl hg7 ?_
          refine step (v := .d (eapi_Frame r4.1)) (st_ldV (ds := [.int .u16 r4.1.P.a0, .int .u16 r4.1.P.a1, .int .u16 r4.1.P.a2, .int .u16 r4.1.P.a3, .int .u16 r4.1.P.a4, .int .u16 r4.1.P.a5, .int .u16 r4.1.P.a6, .int .u16 r4.1.P.a7, .bool r4.1.Tagged, .int .u16 r4.1.Tag, .int .u64 r4.1.Digest]) rfl rfl (show 11 ≤ 11 by decide) rfl) ?_
          refine stepG (c := (r4.2 == 0)) rfl hg7 ?_
          refine step (v := .d (eapi_Frame a0)) rfl ?_
          refine stepG (c := (r4.2 == 0)) rfl hg7 ?_
          refine stepC (r := eapi_Frame r8) (ArgsOk.dt ArgsOk.nil') (c_ref03_Clean hr8) ?_
          refine stepG (c := (r4.2 == 0)) rfl hg7 ?_
          refine step (v := .d (.bool (r4.1 == r8))) (st_eqS (neg := false) rfl rfl (eqS_api_Frame r4.1 r8)) ?_
          refine step (v := .d (.bool (r4.1 == r8))) (st_pickT (b := (r4.2 == 0)) rfl hg7 rfl) ?_
          refine step (v := .d (.bool (r4.1 == r8))) rfl ?_
          by_cases hg9 : (r4.1 == r8) = true
          · replace hv := iteT hg9 hv
            obtain ⟨r10, hr10, hv⟩ := bindE hv
            obtain ⟨r11, hr11, hv⟩ := bindE hv
            refine stepG (c := (r4.1 == r8)) rfl hg9 ?_
            refine step (v := .d (.cptr (some 11) (eapi_Frame a0) 0)) rfl ?_
            refine stepG (c := (r4.1 == r8)) rfl hg9 ?_
            refine step (v := .d (eA8 (D.int .u16) a0.P)) rfl ?_
            refine stepG (c := (r4.1 == r8)) rfl hg9 ?_
            refine stepC (r := eapi_Frame r10) (ArgsOk.dt ArgsOk.nil') (c_frame_Bare hr10) ?_
            refine stepG (c := (r4.1 == r8)) rfl hg9 ?_
            refine step (v := .d (.cptr (some 11) (eapi_Frame a0) 0)) rfl ?_
            refine stepG (c := (r4.1 == r8)) rfl hg9 ?_
            refine step (v := .d (eA8 (D.int .u16) a0.P)) rfl ?_
            refine stepG (c := (r4.1 == r8)) rfl hg9 ?_
            refine step (v := .d (eapi_Frame (api_Frame.mk a0.P false 0 0))) (st_build (ds := [.int .u16 a0.P.a0, .int .u16 a0.P.a1, .int .u16 a0.P.a2, .int .u16 a0.P.a3, .int .u16 a0.P.a4, .int .u16 a0.P.a5, .int .u16 a0.P.a6, .int .u16 a0.P.a7, .bool false, .int .u16 0, .int .u64 0]) rfl) ?_
            refine stepG (c := (r4.1 == r8)) rfl hg9 ?_
            refine stepC (r := eapi_Frame r11) (ArgsOk.dt ArgsOk.nil') (c_ref03_Clean hr11) ?_
            refine stepG (c := (r4.1 == r8)) rfl hg9 ?_
            refine step (v := .d (.bool (r10 == r11))) (st_eqS (neg := false) rfl rfl (eqS_api_Frame r10 r11)) ?_
            refine step (v := .d (.bool (r10 == r11))) (st_pickT (b := (r4.1 == r8)) rfl hg9 rfl) ?_
            refine step (v := .d (.bool (r10 == r11))) rfl ?_
            by_cases hg12 : (r10 == r11) = true
            · replace hv := iteT hg12 hv
              obtain ⟨r13, hr13, hv⟩ := bindE hv
              obtain ⟨r14, hr14, hv⟩ := bindE hv
              refine stepG (c := (r10 == r11)) rfl hg12 ?_
              refine step (v := .d (.cptr (some 11) (eapi_Frame a0) 0)) rfl ?_
              refine stepG (c := (r10 == r11)) rfl hg12 ?_
              refine step (v := .d (eA8 (D.int .u16) a0.P)) rfl ?_
              refine stepG (c := (r10 == r11)) rfl hg12 ?_
              refine step (v := .d (.cptr (some 11) (eapi_Frame a0) 9)) rfl ?_
              refine stepG (c := (r10 == r11)) rfl hg12 ?_
              refine step (v := .d (.int .u16 a0.Tag)) rfl ?_
              refine stepG (c := (r10 == r11)) rfl hg12 ?_
              refine step (v := .d (.cptr (some 11) (eapi_Frame a0) 10)) rfl ?_
              refine stepG (c := (r10 == r11)) rfl hg12 ?_
              refine step (v := .d (.int .u64 a0.Digest)) rfl ?_
              refine stepG (c := (r10 == r11)) rfl hg12 ?_
              refine stepC (r := eapi_Frame r13) (ArgsOk.dt (ArgsOk.dt (ArgsOk.dt ArgsOk.nil'))) (c_frame_Tagged hr13) ?_
              refine stepG (c := (r10 == r11)) rfl hg12 ?_
              refine step (v := .d (.cptr (some 11) (eapi_Frame a0) 0)) rfl ?_
              refine stepG (c := (r10 == r11)) rfl hg12 ?_
              refine step (v := .d (eA8 (D.int .u16) a0.P)) rfl ?_
              refine stepG (c := (r10 == r11)) rfl hg12 ?_
              refine step (v := .d (.cptr (some 11) (eapi_Frame a0) 9)) rfl ?_
              refine stepG (c := (r10 == r11)) rfl hg12 ?_
              refine step (v := .d (.int .u16 a0.Tag)) rfl ?_
              refine stepG (c := (r10 == r11)) rfl hg12 ?_
              refine step (v := .d (.cptr (some 11) (eapi_Frame a0) 10)) rfl ?_
              refine stepG (c := (r10 == r11)) rfl hg12 ?_
              refine step (v := .d (.int .u64 a0.Digest)) rfl ?_
              refine stepG (c := (r10 == r11)) rfl hg12 ?_
              refine step (v := .d (eapi_Frame (api_Frame.mk a0.P true a0.Tag a0.Digest))) (st_build (ds := [.int .u16 a0.P.a0, .int .u16 a0.P.a1, .int .u16 a0.P.a2, .int .u16 a0.P.a3, .int .u16 a0.P.a4, .int .u16 a0.P.a5, .int .u16 a0.P.a6, .int .u16 a0.P.a7, .bool true, .int .u16 a0.Tag, .int .u64 a0.Digest]) rfl) ?_
              refine stepG (c := (r10 == r11)) rfl hg12 ?_
              refine stepC (r := eapi_Frame r14) (ArgsOk.dt ArgsOk.nil') (c_ref03_Clean hr14) ?_
              refine stepG (c := (r10 == r11)) rfl hg12 ?_
              refine step (v := .d (.bool (r13 == r14))) (st_eqS (neg := false) rfl rfl (eqS_api_Frame r13 r14)) ?_
              refine step (v := .d (.bool (r13 == r14))) (st_pickT (b := (r10 == r11)) rfl hg12 rfl) ?_
              refine step (v := .d (.bool (r13 == r14))) rfl ?_
              have hh := Option.some.inj hv
              subst hh
              exact RunOps.nil' (Norm.mk [] (by decide) (by decide) (by decide) ⟨.d _, trivial⟩ trivial)
            · replace hv := iteF hg12 hv
              refine stepX (c := (r10 == r11)) rfl hg12 ?_
              refine stepX (c := (r10 == r11)) rfl hg12 ?_
              refine stepX (c := (r10 == r11)) rfl hg12 ?_
              refine stepX (c := (r10 == r11)) rfl hg12 ?_
              refine stepX (c := (r10 == r11)) rfl hg12 ?_
              refine stepX (c := (r10 == r11)) rfl hg12 ?_
              refine stepX (c := (r10 == r11)) rfl hg12 ?_
              refine stepX (c := (r10 == r11)) rfl hg12 ?_
              refine stepX (c := (r10 == r11)) rfl hg12 ?_
              refine stepX (c := (r10 == r11)) rfl hg12 ?_
              refine stepX (c := (r10 == r11)) rfl hg12 ?_
              refine stepX (c := (r10 == r11)) rfl hg12 ?_
              refine stepX (c := (r10 == r11)) rfl hg12 ?_
              refine stepX (c := (r10 == r11)) rfl hg12 ?_
              refine stepX (c := (r10 == r11)) rfl hg12 ?_
              refine stepX (c := (r10 == r11)) rfl hg12 ?_
              refine step (v := .d (.bool false)) (st_pickF (b := (r10 == r11)) rfl hg12 rfl) ?_
              refine step (v := .d (.bool false)) rfl ?_
              have hh := Option.some.inj hv
              subst hh
              exact RunOps.nil' (Norm.mk [] (by decide) (by decide) (by decide) ⟨.d _, trivial⟩ trivial)
          · replace hv := iteF hg9 hv
            refine stepX (c := (r4.1 == r8)) rfl hg9 ?_
            refine stepX (c := (r4.1 == r8)) rfl hg9 ?_
            refine stepX (c := (r4.1 == r8)) rfl hg9 ?_
            refine stepX (c := (r4.1 == r8)) rfl hg9 ?_
            refine stepX (c := (r4.1 == r8)) rfl hg9 ?_
            refine stepX (c := (r4.1 == r8)) rfl hg9 ?_
            refine stepX (c := (r4.1 == r8)) rfl hg9 ?_
            refine stepX (c := (r4.1 == r8)) rfl hg9 ?_
            refine step (v := .d (.bool false)) (st_pickF (b := (r4.1 == r8)) rfl hg9 rfl) ?_
            refine step (v := .d (.bool false)) rfl ?_
            refine stepX (c := false) rfl (by decide) ?_
            refine stepX (c := false) rfl (by decide) ?_
            refine stepX (c := false) rfl (by decide) ?_
            refine stepX (c := false) rfl (by decide) ?_
            refine stepX (c := false) rfl (by decide) ?_
            refine stepX (c := false) rfl (by decide) ?_
            refine stepX (c := false) rfl (by decide) ?_
            refine stepX (c := false) rfl (by decide) ?_
            refine stepX (c := false) rfl (by decide) ?_
            refine stepX (c := false) rfl (by decide) ?_
            refine stepX (c := false) rfl (by decide) ?_
            refine stepX (c := false) rfl (by decide) ?_
            refine stepX (c := false) rfl (by decide) ?_
            refine stepX (c := false) rfl (by decide) ?_
            refine stepX (c := false) rfl (by decide) ?_
            refine stepX (c := false) rfl (by decide) ?_
            refine step (v := .d (.bool false)) (st_pickF (b := false) rfl (by decide) rfl) ?_
            refine step (v := .d (.bool false)) rfl ?_
            have hh := Option.some.inj hv
            subst hh
            exact RunOps.nil' (Norm.mk [] (by decide) (by decide) (by decide) ⟨.d _, trivial⟩ trivial)
        · replace hv := iteF hg7 hv
          refine stepX (c := (r4.2 == 0)) rfl hg7 ?_
          refine stepX (c := (r4.2 == 0)) rfl hg7 ?_
          refine stepX (c := (r4.2 == 0)) rfl hg7 ?_
          refine stepX (c := (r4.2 == 0)) rfl hg7 ?_
          refine step (v := .d (.bool false)) (st_pickF (b := (r4.2 == 0)) rfl hg7 rfl) ?_
          refine step (v := .d (.bool false)) rfl ?_
          refine stepX (c := false) rfl (by decide) ?_
          refine stepX (c := false) rfl (by decide) ?_
          refine stepX (c := false) rfl (by decide) ?_
          refine stepX (c := false) rfl (by decide) ?_
          refine stepX (c := false) rfl (by decide) ?_
          refine stepX (c := false) rfl (by decide) ?_
          refine stepX (c := false) rfl (by decide) ?_
          refine stepX (c := false) rfl (by decide) ?_
          refine step (v := .d (.bool false)) (st_pickF (b := false) rfl (by decide) rfl) ?_
          refine step (v := .d (.bool false)) rfl ?_
          refine stepX (c := false) rfl (by decide) ?_
          refine stepX (c := false) rfl (by decide) ?_
          refine stepX (c := false) rfl (by decide) ?_
          refine stepX (c := false) rfl (by decide) ?_
          refine stepX (c := false) rfl (by decide) ?_
          refine stepX (c := false) rfl (by decide) ?_
          refine stepX (c := false) rfl (by decide) ?_
          refine stepX (c := false) rfl (by decide) ?_
          refine stepX (c := false) rfl (by decide) ?_
          refine stepX (c := false) rfl (by decide) ?_
          refine stepX (c := false) rfl (by decide) ?_
          refine stepX (c := false) rfl (by decide) ?_
          refine stepX (c := false) rfl (by decide) ?_
          refine stepX (c := false) rfl (by decide) ?_
          refine stepX (c := false) rfl (by decide) ?_
          refine stepX (c := false) rfl (by decide) ?_
          refine step (v := .d (.bool false)) (st_pickF (b := false) rfl (by decide) rfl) ?_
          refine step (v := .d (.bool false)) rfl ?_
          have hh := Option.some.inj hv
          subst hh
          exact RunOps.nil' (Norm.mk [] (by decide) (by decide) (by decide) ⟨.d _, trivial⟩ trivial)
      · replace hv := iteF hg6 hv
        refine stepX (c := seqB r3 r5) rfl hg6 ?_
        refine stepX (c := seqB r3 r5) rfl hg6 ?_
        refine step (v := .d (.bool false)) (st_pickF (b := seqB r3 r5) rfl hg6 rfl) ?_
        refine step (v := .d (.bool false)) rfl ?_
        refine stepX (c := false) rfl (by decide) ?_
        refine stepX (c := false) rfl (by decide) ?_
        refine stepX (c := false) rfl (by decide) ?_
        refine stepX (c := false) rfl (by decide) ?_
        refine step (v := .d (.bool false)) (st_pickF (b := false) rfl (by decide) rfl) ?_
        refine step (v := .d (.bool false)) rfl ?_
        refine stepX (c := false) rfl (by decide) ?_
        refine stepX (c := false) rfl (by decide) ?_
        refine stepX (c := false) rfl (by decide) ?_
        refine stepX (c := false) rfl (by decide) ?_
        refine stepX (c := false) rfl (by decide) ?_
        refine stepX (c := false) rfl (by decide) ?_
        refine stepX (c := false) rfl (by decide) ?_
        refine stepX (c := false) rfl (by decide) ?_
        refine step (v := .d (.bool false)) (st_pickF (b := false) rfl (by decide) rfl) ?_
        refine step (v := .d (.bool false)) rfl ?_
        refine stepX (c := false) rfl (by decide) ?_
        refine stepX (c := false) rfl (by decide) ?_
        refine stepX (c := false) rfl (by decide) ?_
        refine stepX (c := false) rfl (by decide) ?_
        refine stepX (c := false) rfl (by decide) ?_
        refine stepX (c := false) rfl (by decide) ?_
        refine stepX (c := false) rfl (by decide) ?_
        refine stepX (c := false) rfl (by decide) ?_
        refine stepX (c := false) rfl (by decide) ?_
        refine stepX (c := false) rfl (by decide) ?_
        refine stepX (c := false) rfl (by decide) ?_
        refine stepX (c := false) rfl (by decide) ?_
        refine stepX (c := false) rfl (by decide) ?_
        refine stepX (c := false) rfl (by decide) ?_
        refine stepX (c := false) rfl (by decide) ?_
        refine stepX (c := false) rfl (by decide) ?_
        refine step (v := .d (.bool false)) (st_pickF (b := false) rfl (by decide) rfl) ?_
        refine step (v := .d (.bool false)) rfl ?_
        have hh := Option.some.inj hv
        subst hh
        exact RunOps.nil' (Norm.mk [] (by decide) (by decide) (by decide) ⟨.d _, trivial⟩ trivial)
    have hh := Option.some.inj h
    subst hh
    refine NWp.ret ?_
    show FQ _ _ _ _
    exact FQ.mk1 (.inr rfl) (res_t (v := .d (.bool y15)) rfl rfl) (RV.d trivial)


end Go.AM
