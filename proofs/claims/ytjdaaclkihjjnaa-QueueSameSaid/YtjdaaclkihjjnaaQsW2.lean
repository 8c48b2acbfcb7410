import Derived.Test.YtjdaaclkihjjnaaQsW1
/-  What they are in the program: walks. -/
set_option linter.unusedVariables false
set_option linter.unusedSimpArgs false
namespace Go.AM
open Go Go.RowKit Go.Proofs

attribute [local irreducible] RunOps RunOpsL

theorem c_law16_QueueSame {a0 : (A2 Int)} {a1 : (List law16_Act)} {a2 : (List law16_Act)} {r : Bool} (h : law16_QueueSame a0 a1 a2 = some r) : PCall Try.prog 5 [eA2 (D.int .i64) a0, eL (some 4) elaw16_Act a1, eL (some 4) elaw16_Act a2] (.bool r) := by
  refine PCall.introN ok5 (show 3 ≤ 172 by decide) ?_
  refine NWp.norm (s0 := ⟨tab [(0, .d (eA2 (D.int .i64) a0)), (1, .d (eL (some 4) elaw16_Act a1)), (2, .d (eL (some 4) elaw16_Act a2))], stab [], 0⟩) (Norm.mk [] (by decide) (by decide) (by decide) ⟨.d _, .d _, .d _, trivial⟩ trivial) ?_
  refine NWp.opsJ ⟨tab [(1, .d (eL (some 4) elaw16_Act a1)), (2, .d (eL (some 4) elaw16_Act a2)), (3, .d (.cptr (some 2) (eA2 (D.int .i64) a0) 0))], stab [], 0⟩ ?_ ?_
  · refine step (v := .d (.cptr (some 2) (eA2 (D.int .i64) a0) 0)) rfl ?_
    refine step (v := .d (.bool false)) rfl ?_
    exact RunOps.nil' (Norm.mk [] (by decide) (by decide) (by decide) ⟨.d _, .d _, .d _, trivial⟩ trivial)
  refine NWp.seq ?_
  obtain ⟨r1, hr1, h⟩ := bindE h
  refine NWp.opsJ ⟨tab [(1, .d (eL (some 4) elaw16_Act a1)), (2, .d (eL (some 4) elaw16_Act a2)), (3, .d (.cptr (some 2) (eA2 (D.int .i64) a0) 0)), (17, .d (.bool (!r1)))], stab [], 0⟩ ?_ ?_
  · refine stepC (r := .bool r1) ArgsOk.nil' (c_law16_awake hr1) ?_
    refine step (v := .d (.bool (!r1))) rfl ?_
    exact RunOps.nil' (Norm.mk [] (by decide) (by decide) (by decide) ⟨.d _, .d _, .d _, .d _, trivial⟩ trivial)
  by_cases hc2 : (!r1) = true
  · replace h := iteT hc2 h
    refine NWp.condT (t := (!r1)) rfl hc2 ?_
    refine NWp.opsJ ⟨tab [(6, .d (.bool false))], stab [], 0⟩ ?_ ?_
    · refine step (v := .d (.bool false)) rfl ?_
      exact RunOps.nil' (Norm.mk [] (by decide) (by decide) (by decide) ⟨.d _, trivial⟩ trivial)
    have hh := Option.some.inj h
    subst hh
    refine NWp.ret ?_
    show FQ _ _ _ _
    exact FQ.mk1 (.inr rfl) (res_t (v := .d (.bool false)) rfl rfl) (RV.d trivial)
  · replace h := iteF hc2 h
    refine NWp.condF (t := (!r1)) rfl hc2 ?_
    refine NWp.skip ?_
    refine NWp.seq ?_
    refine NWp.opsJ ⟨tab [(1, .d (eL (some 4) elaw16_Act a1)), (2, .d (eL (some 4) elaw16_Act a2)), (3, .d (.cptr (some 2) (eA2 (D.int .i64) a0) 0)), (25, .d (.bool ((decide ((a1.length : Int) > 60)) || (decide ((a2.length : Int) > 60)))))], stab [], 0⟩ ?_ ?_
    · refine step (v := .d (eL (some 4) elaw16_Act a1)) rfl ?_
      refine step (v := .d (.int .i64 (a1.length : Int))) (st_len (xs := a1) (e := elaw16_Act) rfl) ?_
      refine step (v := .d (.bool (decide ((a1.length : Int) > 60)))) rfl ?_
      refine step (v := .d (.bool (decide ((a1.length : Int) > 60)))) rfl ?_
      by_cases hg3 : decide ((a1.length : Int) > 60) = true
      · refine stepX (c := decide ((a1.length : Int) > 60)) rfl (by rw [hg3]; decide) ?_
        refine stepX (c := decide ((a1.length : Int) > 60)) rfl (by rw [hg3]; decide) ?_
        refine stepX (c := decide ((a1.length : Int) > 60)) rfl (by rw [hg3]; decide) ?_
        refine step (v := .d (.bool true)) (st_pickT (b := decide ((a1.length : Int) > 60)) rfl hg3 rfl) ?_
        exact RunOps.nil' (Norm.mk [] (by decide) (by decide) (by decide) ⟨.d _, .d _, .d _, .eq (by simp [hg3]), trivial⟩ trivial)
      · refine stepG (c := decide ((a1.length : Int) > 60)) rfl (Bool.eq_false_iff.2 hg3) ?_
        refine step (v := .d (eL (some 4) elaw16_Act a2)) rfl ?_
        refine stepG (c := decide ((a1.length : Int) > 60)) rfl (Bool.eq_false_iff.2 hg3) ?_
        refine step (v := .d (.int .i64 (a2.length : Int))) (st_len (xs := a2) (e := elaw16_Act) rfl) ?_
        refine stepG (c := decide ((a1.length : Int) > 60)) rfl (Bool.eq_false_iff.2 hg3) ?_
        refine step (v := .d (.bool (decide ((a2.length : Int) > 60)))) rfl ?_
        refine step (v := .d (.bool (decide ((a2.length : Int) > 60)))) (st_pickF (b := decide ((a1.length : Int) > 60)) rfl hg3 rfl) ?_
        exact RunOps.nil' (Norm.mk [] (by decide) (by decide) (by decide) ⟨.d _, .d _, .d _, .eq (by simp [hg3]), trivial⟩ trivial)
    by_cases hc4 : ((decide ((a1.length : Int) > 60)) || (decide ((a2.length : Int) > 60))) = true
    · replace h := iteT hc4 h
      refine NWp.condT (t := ((decide ((a1.length : Int) > 60)) || (decide ((a2.length : Int) > 60)))) rfl hc4 ?_
      refine NWp.opsJ ⟨tab [(6, .d (.bool true))], stab [], 0⟩ ?_ ?_
      · refine step (v := .d (.bool true)) rfl ?_
        exact RunOps.nil' (Norm.mk [] (by decide) (by decide) (by decide) ⟨.d _, trivial⟩ trivial)
      have hh := Option.some.inj h
      subst hh
      refine NWp.ret ?_
      show FQ _ _ _ _
      exact FQ.mk1 (.inr rfl) (res_t (v := .d (.bool true)) rfl rfl) (RV.d trivial)
    · replace h := iteF hc4 h
      refine NWp.condF (t := ((decide ((a1.length : Int) > 60)) || (decide ((a2.length : Int) > 60)))) rfl hc4 ?_
      refine NWp.skip ?_
      refine NWp.opsJ ⟨tab [(1, .d (eL (some 4) elaw16_Act a1)), (2, .d (eL (some 4) elaw16_Act a2)), (3, .d (.cptr (some 2) (eA2 (D.int .i64) a0) 0)), (7, .ptr 0 0 0)], stab [(0, .var [.d (.nilp), .d (.nilp)])], 1⟩ ?_ ?_
      · refine step (v := .ptr 0 0 0) (σ' := (upd (stab []) 0 (some (.var [.d (.nilp), .d (.nilp)])))) (n' := 1) rfl ?_
        exact RunOps.nil' (Norm.mk [0] (by decide) (by decide) (by decide) ⟨.d _, .d _, .d _, .ptr 0 _ _ (show 0 < 1 by decide), trivial⟩ ⟨⟨show 0 < 1 by decide, _, rfl, .vars ⟨.d _, .d _, trivial⟩⟩, trivial⟩)
      refine NWp.opsJ ⟨tab [(1, .d (eL (some 4) elaw16_Act a1)), (2, .d (eL (some 4) elaw16_Act a2)), (3, .d (.cptr (some 2) (eA2 (D.int .i64) a0) 0)), (7, .ptr 0 0 0), (8, .ptr 1 0 0)], stab [(0, .var [.d (.nilp), .d (.nilp)]), (1, .var [.d (.int .i64 0), .d (eL (some 3) eapi_Item []), .d (.int .i64 0), .d (.int .i64 0), .d (eL (some 3) eapi_Item []), .d (.int .i64 0)])], 2⟩ ?_ ?_
      · refine step (v := .ptr 1 0 0) (σ' := (upd (stab [(0, .var [.d (.nilp), .d (.nilp)])]) 1 (some (.var [.d (.int .i64 0), .d (eL (some 3) eapi_Item []), .d (.int .i64 0), .d (.int .i64 0), .d (eL (some 3) eapi_Item []), .d (.int .i64 0)])))) (n' := 2) rfl ?_
        exact RunOps.nil' (Norm.mk [0, 1] (by decide) (by decide) (by decide) ⟨.d _, .d _, .d _, .ptr 0 _ _ (show 0 < 2 by decide), .ptr 1 _ _ (show 1 < 2 by decide), trivial⟩ ⟨⟨show 0 < 2 by decide, _, rfl, .vars ⟨.d _, .d _, trivial⟩⟩, ⟨show 1 < 2 by decide, _, rfl, .vars ⟨.d _, .d _, .d _, .d _, .d _, .d _, trivial⟩⟩, trivial⟩)
      refine NWp.seq ?_
      refine NWp.opsJ ⟨tab [(3, .d (.cptr (some 2) (eA2 (D.int .i64) a0) 0)), (7, .ptr 0 0 0), (8, .ptr 1 0 0), (28, .d (eL none (eL (some 4) elaw16_Act) ([a1, a2] : List (List law16_Act)))), (29, .d (.int .i64 2)), (30, .d (.int .i64 0))], stab [(0, .var [.d (.nilp), .d (.nilp)]), (1, .var [.d (.int .i64 0), .d (eL (some 3) eapi_Item []), .d (.int .i64 0), .d (.int .i64 0), .d (eL (some 3) eapi_Item []), .d (.int .i64 0)])], 2⟩ ?_ ?_
      · refine step (v := .d (eL (some 4) elaw16_Act a1)) rfl ?_
        refine step (v := .d (eL (some 4) elaw16_Act a2)) rfl ?_
        refine step (v := .d (eL none (eL (some 4) elaw16_Act) ([a1, a2] : List (List law16_Act)))) rfl ?_
        refine step (v := .d (.int .i64 2)) (st_len (xs := ([a1, a2] : List (List law16_Act))) (e := (eL (some 4) elaw16_Act)) rfl) ?_
        refine step (v := .d (.int .i64 0)) rfl ?_
        exact RunOps.nil' (Norm.mk [0, 1] (by decide) (by decide) (by decide) ⟨.d _, .ptr 0 _ _ (show 0 < 2 by decide), .ptr 1 _ _ (show 1 < 2 by decide), .d _, .d _, .d _, trivial⟩ ⟨⟨show 0 < 2 by decide, _, rfl, .vars ⟨.d _, .d _, trivial⟩⟩, ⟨show 1 < 2 by decide, _, rfl, .vars ⟨.d _, .d _, .d _, .d _, .d _, .d _, trivial⟩⟩, trivial⟩)
      refine NWp.block ?_
      refine NWp.loop ?_
      refine NWp.opsJ ⟨tab [(3, .d (.cptr (some 2) (eA2 (D.int .i64) a0) 0)), (7, .ptr 0 0 0), (8, .ptr 1 0 0), (28, .d (eL none (eL (some 4) elaw16_Act) ([a1, a2] : List (List law16_Act)))), (29, .d (.int .i64 2)), (30, .d (.int .i64 0)), (31, .d (.bool true))], stab [(0, .var [.d (.nilp), .d (.nilp)]), (1, .var [.d (.int .i64 0), .d (eL (some 3) eapi_Item []), .d (.int .i64 0), .d (.int .i64 0), .d (eL (some 3) eapi_Item []), .d (.int .i64 0)])], 2⟩ ?_ ?_
      · refine step (v := .d (.bool true)) rfl ?_
        exact RunOps.nil' (Norm.mk [0, 1] (by decide) (by decide) (by decide) ⟨.d _, .ptr 0 _ _ (show 0 < 2 by decide), .ptr 1 _ _ (show 1 < 2 by decide), .d _, .d _, .d _, .d _, trivial⟩ ⟨⟨show 0 < 2 by decide, _, rfl, .vars ⟨.d _, .d _, trivial⟩⟩, ⟨show 1 < 2 by decide, _, rfl, .vars ⟨.d _, .d _, .d _, .d _, .d _, .d _, trivial⟩⟩, trivial⟩)
      refine NWp.seq ?_
      refine NWp.condT (t := true) rfl rfl ?_
      refine NWp.skip ?_
      refine NWp.seq ?_
      refine NWp.block ?_
      obtain ⟨x5, hx5, h⟩ := bindE h
      refine NWp.opsJ ⟨tab [(3, .d (.cptr (some 2) (eA2 (D.int .i64) a0) 0)), (7, .ptr 0 0 0), (8, .ptr 1 0 0), (9, .d (.int .i64 0)), (10, .d (eL (some 4) elaw16_Act x5)), (28, .d (eL none (eL (some 4) elaw16_Act) ([a1, a2] : List (List law16_Act)))), (29, .d (.int .i64 2)), (30, .d (.int .i64 0))], stab [(0, .var [.d (.nilp), .d (.nilp)]), (1, .var [.d (.int .i64 0), .d (eL (some 3) eapi_Item []), .d (.int .i64 0), .d (.int .i64 0), .d (eL (some 3) eapi_Item []), .d (.int .i64 0)])], 2⟩ ?_ ?_
      · refine step (v := .d (.int .i64 0)) rfl ?_
        refine step (v := .d (.cptr none (eL (some 4) elaw16_Act x5) 0)) (st_iaddr (xs := ([a1, a2] : List (List law16_Act))) (e := (eL (some 4) elaw16_Act)) hx5 rfl rfl) ?_
        refine step (v := .d (eL (some 4) elaw16_Act x5)) rfl ?_
        refine step (v := .d (.int .i64 0)) rfl ?_
        refine step (v := .d (eL (some 4) elaw16_Act x5)) rfl ?_
        exact RunOps.nil' (Norm.mk [0, 1] (by decide) (by decide) (by decide) ⟨.d _, .ptr 0 _ _ (show 0 < 2 by decide), .ptr 1 _ _ (show 1 < 2 by decide), .d _, .d _, .d _, .d _, .d _, trivial⟩ ⟨⟨show 0 < 2 by decide, _, rfl, .vars ⟨.d _, .d _, trivial⟩⟩, ⟨show 1 < 2 by decide, _, rfl, .vars ⟨.d _, .d _, .d _, .d _, .d _, .d _, trivial⟩⟩, trivial⟩)
      obtain ⟨r6, hr6, h⟩ := bindE h
      obtain ⟨r7, hr7, h⟩ := bindE h
      refine NWp.opsJ ⟨tab [(3, .d (.cptr (some 2) (eA2 (D.int .i64) a0) 0)), (7, .ptr 0 0 0), (8, .ptr 3 0 0), (9, .d (.int .i64 0)), (10, .d (eL (some 4) elaw16_Act x5)), (28, .d (eL none (eL (some 4) elaw16_Act) ([a1, a2] : List (List law16_Act)))), (29, .d (.int .i64 2)), (30, .d (.int .i64 0))], stab [(0, .var [.ptr 1 0 0, .d (.nilp)]), (1, .var [.loc 2 0 r6.ring.length, .d (.int .i64 r6.first), .d (.int .i64 r6.n_), .d (.int .i64 r6.lost)]), (2, .lst true (some 3) (List.map eapi_Item r6.ring)), (3, .var [.d (.int .i64 r7.Places), .d (eL (some 3) eapi_Item r7.L), .d (.int .i64 r7.Lost), .d (.int .i64 0), .d (eL (some 3) eapi_Item []), .d (.int .i64 0)])], 4⟩ ?_ ?_
      · refine step (v := .d (.int .i64 0)) rfl ?_
        refine step (v := .d (.int .i64 0)) rfl ?_
        refine step (v := .d (.int .i64 0)) rfl ?_
        refine step (v := .d (.cptr (some 2) (eA2 (D.int .i64) a0) 0)) rfl ?_
        refine step (v := .d (.int .i64 a0.a0)) rfl ?_
        refine stepW (v := .ptr 2 0 0) (σ' := (upd (upd (stab [(0, .var [.d (.nilp), .d (.nilp)]), (1, .var [.d (.int .i64 0), .d (eL (some 3) eapi_Item []), .d (.int .i64 0), .d (.int .i64 0), .d (eL (some 3) eapi_Item []), .d (.int .i64 0)])]) 3 (some (.lst true (some 3) (List.map eapi_Item r6.ring)))) 2 (some (.var [.loc 3 0 r6.ring.length, .d (.int .i64 r6.first), .d (.int .i64 r6.n_), .d (.int .i64 r6.lost)])))) (n' := 4) (SCall.lift [] (c_queue_New hr6) (show 0 ≤ 2 by decide) (by decide) (show ∀ i ∈ [], i < 2 by decide) (dom_c (show 0 < 2 by decide) (dom_c (show 1 < 2 by decide) dom_n)) (VNs.c (.d _) VNs.nil0) SN.nil0) (show 2 ≤ 4 by decide) ?_
        refine step (v := .d (.int .i64 0)) rfl ?_
        refine step (v := .d (.cptr (some 2) (eA2 (D.int .i64) a0) 0)) rfl ?_
        refine step (v := .d (.int .i64 a0.a0)) rfl ?_
        refine stepC (r := eref16_Queue r7) (ArgsOk.dt ArgsOk.nil') (c_ref16_New hr7) ?_
        refine step (v := .ptr 0 0 0) rfl ?_
        refine step (v := V.undef) (σ' := (upd (upd (upd (stab [(0, .var [.d (.nilp), .d (.nilp)]), (1, .var [.d (.int .i64 0), .d (eL (some 3) eapi_Item []), .d (.int .i64 0), .d (.int .i64 0), .d (eL (some 3) eapi_Item []), .d (.int .i64 0)])]) 3 (some (.lst true (some 3) (List.map eapi_Item r6.ring)))) 2 (some (.var [.loc 3 0 r6.ring.length, .d (.int .i64 r6.first), .d (.int .i64 r6.n_), .d (.int .i64 r6.lost)]))) 0 (some (.var [.ptr 2 0 0, .d (.nilp)])))) (n' := 4) rfl ?_
        refine step (v := .ptr 1 0 0) rfl ?_
        refine step (v := V.undef) (σ' := (upd (upd (upd (upd (stab [(0, .var [.d (.nilp), .d (.nilp)]), (1, .var [.d (.int .i64 0), .d (eL (some 3) eapi_Item []), .d (.int .i64 0), .d (.int .i64 0), .d (eL (some 3) eapi_Item []), .d (.int .i64 0)])]) 3 (some (.lst true (some 3) (List.map eapi_Item r6.ring)))) 2 (some (.var [.loc 3 0 r6.ring.length, .d (.int .i64 r6.first), .d (.int .i64 r6.n_), .d (.int .i64 r6.lost)]))) 0 (some (.var [.ptr 2 0 0, .d (.nilp)]))) 1 (some (.var [.d (.int .i64 r7.Places), .d (eL (some 3) eapi_Item r7.L), .d (.int .i64 r7.Lost), .d (.int .i64 0), .d (eL (some 3) eapi_Item []), .d (.int .i64 0)])))) (n' := 4) rfl ?_
        exact RunOps.nil' (Norm.mk [0, 2, 3, 1] (by decide) (by decide) (by decide) ⟨.d _, .ptr 0 _ _ (show 0 < 4 by decide), .ptr 3 _ _ (show 3 < 4 by decide), .d _, .d _, .d _, .d _, .d _, trivial⟩ ⟨⟨show 0 < 4 by decide, _, rfl, .vars ⟨.ptr 1 _ _ (show 1 < 4 by decide), .d _, trivial⟩⟩, ⟨show 1 < 4 by decide, _, rfl, .vars ⟨.loc 2 _ _ (show 2 < 4 by decide), .d _, .d _, .d _, trivial⟩⟩, ⟨show 2 < 4 by decide, _, rfl, .lst _ _ _⟩, ⟨show 3 < 4 by decide, _, rfl, .vars ⟨.d _, .d _, .d _, .d _, .d _, .d _, trivial⟩⟩, trivial⟩)
      refine NWp.opsJ ⟨tab [(3, .d (.cptr (some 2) (eA2 (D.int .i64) a0) 0)), (7, .ptr 0 0 0), (8, .ptr 3 0 0), (9, .d (.int .i64 0)), (28, .d (eL none (eL (some 4) elaw16_Act) ([a1, a2] : List (List law16_Act)))), (29, .d (.int .i64 2)), (30, .d (.int .i64 0)), (47, .d (eL (some 4) elaw16_Act x5)), (48, .d (.int .i64 (x5.length : Int))), (49, .d (.int .i64 0))], stab [(0, .var [.ptr 1 0 0, .d (.nilp)]), (1, .var [.loc 2 0 r6.ring.length, .d (.int .i64 r6.first), .d (.int .i64 r6.n_), .d (.int .i64 r6.lost)]), (2, .lst true (some 3) (List.map eapi_Item r6.ring)), (3, .var [.d (.int .i64 r7.Places), .d (eL (some 3) eapi_Item r7.L), .d (.int .i64 r7.Lost), .d (.int .i64 0), .d (eL (some 3) eapi_Item []), .d (.int .i64 0)])], 4⟩ ?_ ?_
      · refine step (v := .d (eL (some 4) elaw16_Act x5)) rfl ?_
        refine step (v := .d (.int .i64 (x5.length : Int))) (st_len (xs := x5) (e := elaw16_Act) rfl) ?_
        refine step (v := .d (.int .i64 0)) rfl ?_
        exact RunOps.nil' (Norm.mk [0, 1, 2, 3] (by decide) (by decide) (by decide) ⟨.d _, .ptr 0 _ _ (show 0 < 4 by decide), .ptr 3 _ _ (show 3 < 4 by decide), .d _, .d _, .d _, .d _, .d _, .d _, .d _, trivial⟩ ⟨⟨show 0 < 4 by decide, _, rfl, .vars ⟨.ptr 1 _ _ (show 1 < 4 by decide), .d _, trivial⟩⟩, ⟨show 1 < 4 by decide, _, rfl, .vars ⟨.loc 2 _ _ (show 2 < 4 by decide), .d _, .d _, .d _, trivial⟩⟩, ⟨show 2 < 4 by decide, _, rfl, .lst _ _ _⟩, ⟨show 3 < 4 by decide, _, rfl, .vars ⟨.d _, .d _, .d _, .d _, .d _, .d _, trivial⟩⟩, trivial⟩)
      obtain ⟨q89, hl, h⟩ := bindE h
      obtain ⟨z31, z32, z33, z34, z35⟩ := q89
      refine NWp.norm (s0 := ⟨tab [(3, .d (.cptr (some 2) (eA2 (D.int .i64) a0) 0)), (7, .ptr 0 0 0), (8, .ptr 3 0 0), (9, .d (.int .i64 0)), (28, .d (eL none (eL (some 4) elaw16_Act) ([a1, a2] : List (List law16_Act)))), (29, .d (.int .i64 2)), (30, .d (.int .i64 0)), (47, .d (eL (some 4) elaw16_Act x5)), (48, .d (.int .i64 (x5.length : Int))), (49, .d (.int .i64 0))], stab [(0, .var [.ptr 1 0 0, .d (.nilp)]), (1, .var [.loc 2 0 r6.ring.length, .d (.int .i64 r6.first), .d (.int .i64 r6.n_), .d (.int .i64 r6.lost)]), (2, .lst true (some 3) (List.map eapi_Item r6.ring)), (3, .var [.d (.int .i64 ((A2.mk r7 (ref16_Queue.mk 0 [] 0)).a0.Places)), .d (eL (some 3) eapi_Item ((A2.mk r7 (ref16_Queue.mk 0 [] 0)).a0.L)), .d (.int .i64 ((A2.mk r7 (ref16_Queue.mk 0 [] 0)).a0.Lost)), .d (.int .i64 ((A2.mk r7 (ref16_Queue.mk 0 [] 0)).a1.Places)), .d (eL (some 3) eapi_Item ((A2.mk r7 (ref16_Queue.mk 0 [] 0)).a1.L)), .d (.int .i64 ((A2.mk r7 (ref16_Queue.mk 0 [] 0)).a1.Lost))])], 4⟩) (Norm.mk [0, 1, 2, 3] (by decide) (by decide) (by decide) ⟨.d _, .ptr 0 _ _ (show 0 < 4 by decide), .ptr 3 _ _ (show 3 < 4 by decide), .d _, .d _, .d _, .d _, .d _, .d _, .d _, trivial⟩ ⟨⟨show 0 < 4 by decide, _, rfl, .vars ⟨.ptr 1 _ _ (show 1 < 4 by decide), .d _, trivial⟩⟩, ⟨show 1 < 4 by decide, _, rfl, .vars ⟨.loc 2 _ _ (show 2 < 4 by decide), .d _, .d _, .d _, trivial⟩⟩, ⟨show 2 < 4 by decide, _, rfl, .lst _ _ _⟩, ⟨show 3 < 4 by decide, _, rfl, .vars ⟨.d _, .d _, .d _, .d _, .d _, .d _, trivial⟩⟩, trivial⟩) ?_
      refine NWp.block ?_
      refine loop_forO (cntU (x5.length : Int)) (fun (i12 : Int) (qq : ((List api_Item) × Int × Int × Int × (A2 ref16_Queue))) => ⟨tab [(3, .d (.cptr (some 2) (eA2 (D.int .i64) a0) 0)), (7, .ptr 0 0 0), (8, .ptr 3 0 0), (9, .d (.int .i64 0)), (28, .d (eL none (eL (some 4) elaw16_Act) ([a1, a2] : List (List law16_Act)))), (29, .d (.int .i64 2)), (30, .d (.int .i64 0)), (47, .d (eL (some 4) elaw16_Act x5)), (48, .d (.int .i64 (x5.length : Int))), (49, .d (.int .i64 i12))], stab [(0, .var [.ptr 1 0 0, .d (.nilp)]), (1, .var [.loc 2 0 qq.1.length, .d (.int .i64 qq.2.1), .d (.int .i64 qq.2.2.1), .d (.int .i64 qq.2.2.2.1)]), (2, .lst true (some 3) (List.map eapi_Item qq.1)), (3, .var [.d (.int .i64 qq.2.2.2.2.a0.Places), .d (eL (some 3) eapi_Item qq.2.2.2.2.a0.L), .d (.int .i64 qq.2.2.2.2.a0.Lost), .d (.int .i64 qq.2.2.2.2.a1.Places), .d (eL (some 3) eapi_Item qq.2.2.2.2.a1.L), .d (.int .i64 qq.2.2.2.2.a1.Lost)])], 4⟩) 2 (fun (qq : ((List api_Item) × Int × Int × Int × (A2 ref16_Queue))) => ⟨tab [(3, .d (.cptr (some 2) (eA2 (D.int .i64) a0) 0)), (7, .ptr 0 0 0), (8, .ptr 3 0 0), (28, .d (eL none (eL (some 4) elaw16_Act) ([a1, a2] : List (List law16_Act)))), (29, .d (.int .i64 2)), (30, .d (.int .i64 0))], stab [(0, .var [.ptr 1 0 0, .d (.nilp)]), (1, .var [.loc 2 0 qq.1.length, .d (.int .i64 qq.2.1), .d (.int .i64 qq.2.2.1), .d (.int .i64 qq.2.2.2.1)]), (2, .lst true (some 3) (List.map eapi_Item qq.1)), (3, .var [.d (.int .i64 qq.2.2.2.2.a0.Places), .d (eL (some 3) eapi_Item qq.2.2.2.2.a0.L), .d (.int .i64 qq.2.2.2.2.a0.Lost), .d (.int .i64 qq.2.2.2.2.a1.Places), .d (eL (some 3) eapi_Item qq.2.2.2.2.a1.L), .d (.int .i64 qq.2.2.2.2.a1.Lost)])], 4⟩) Low low_step hl (by unfold Low; omega) ?_ ?_ ?_
      · rintro i12 ⟨l8, i9, i10, i11, y13⟩ xr18 hinv16 hgo15 h
        show NWp _ _ _ _ _ ⟨tab [(3, .d (.cptr (some 2) (eA2 (D.int .i64) a0) 0)), (7, .ptr 0 0 0), (8, .ptr 3 0 0), (9, .d (.int .i64 0)), (28, .d (eL none (eL (some 4) elaw16_Act) ([a1, a2] : List (List law16_Act)))), (29, .d (.int .i64 2)), (30, .d (.int .i64 0)), (47, .d (eL (some 4) elaw16_Act x5)), (48, .d (.int .i64 (x5.length : Int))), (49, .d (.int .i64 i12))], stab [(0, .var [.ptr 1 0 0, .d (.nilp)]), (1, .var [.loc 2 0 l8.length, .d (.int .i64 i9), .d (.int .i64 i10), .d (.int .i64 i11)]), (2, .lst true (some 3) (List.map eapi_Item l8)), (3, .var [.d (.int .i64 y13.a0.Places), .d (eL (some 3) eapi_Item y13.a0.L), .d (.int .i64 y13.a0.Lost), .d (.int .i64 y13.a1.Places), .d (eL (some 3) eapi_Item y13.a1.L), .d (.int .i64 y13.a1.Lost)])], 4⟩
        have hc17 : decide (i12 < (x5.length : Int)) = true := decide_eq_true hgo15
        refine NWp.opsJ ⟨tab [(3, .d (.cptr (some 2) (eA2 (D.int .i64) a0) 0)), (7, .ptr 0 0 0), (8, .ptr 3 0 0), (9, .d (.int .i64 0)), (28, .d (eL none (eL (some 4) elaw16_Act) ([a1, a2] : List (List law16_Act)))), (29, .d (.int .i64 2)), (30, .d (.int .i64 0)), (47, .d (eL (some 4) elaw16_Act x5)), (48, .d (.int .i64 (x5.length : Int))), (49, .d (.int .i64 i12)), (50, .d (.bool (decide (i12 < (x5.length : Int)))))], stab [(0, .var [.ptr 1 0 0, .d (.nilp)]), (1, .var [.loc 2 0 l8.length, .d (.int .i64 i9), .d (.int .i64 i10), .d (.int .i64 i11)]), (2, .lst true (some 3) (List.map eapi_Item l8)), (3, .var [.d (.int .i64 y13.a0.Places), .d (eL (some 3) eapi_Item y13.a0.L), .d (.int .i64 y13.a0.Lost), .d (.int .i64 y13.a1.Places), .d (eL (some 3) eapi_Item y13.a1.L), .d (.int .i64 y13.a1.Lost)])], 4⟩ ?_ ?_
        · refine step (v := .d (.bool (decide (i12 < (x5.length : Int))))) rfl ?_
          exact RunOps.nil' (Norm.mk [0, 1, 2, 3] (by decide) (by decide) (by decide) ⟨.d _, .ptr 0 _ _ (show 0 < 4 by decide), .ptr 3 _ _ (show 3 < 4 by decide), .d _, .d _, .d _, .d _, .d _, .d _, .d _, .d _, trivial⟩ ⟨⟨show 0 < 4 by decide, _, rfl, .vars ⟨.ptr 1 _ _ (show 1 < 4 by decide), .d _, trivial⟩⟩, ⟨show 1 < 4 by decide, _, rfl, .vars ⟨.loc 2 _ _ (show 2 < 4 by decide), .d _, .d _, .d _, trivial⟩⟩, ⟨show 2 < 4 by decide, _, rfl, .lst _ _ _⟩, ⟨show 3 < 4 by decide, _, rfl, .vars ⟨.d _, .d _, .d _, .d _, .d _, .d _, trivial⟩⟩, trivial⟩)
        refine NWp.rng 48 rfl fun hB14 => ?_
        refine NWp.seq ?_
        refine NWp.condT (t := decide (i12 < (x5.length : Int))) rfl hc17 ?_
        refine NWp.skip ?_
        obtain ⟨q30, hv, h⟩ := bindE h
        obtain ⟨l25, y26, y27, y28, y29⟩ := q30
        refine NWp.seqN ⟨tab [(3, .d (.cptr (some 2) (eA2 (D.int .i64) a0) 0)), (7, .ptr 0 0 0), (8, .ptr 3 0 0), (9, .d (.int .i64 0)), (28, .d (eL none (eL (some 4) elaw16_Act) ([a1, a2] : List (List law16_Act)))), (29, .d (.int .i64 2)), (30, .d (.int .i64 0)), (47, .d (eL (some 4) elaw16_Act x5)), (48, .d (.int .i64 (x5.length : Int))), (49, .d (.int .i64 i12))], stab [(0, .var [.ptr 1 0 0, .d (.nilp)]), (1, .var [.loc 2 0 l25.length, .d (.int .i64 y26), .d (.int .i64 y27), .d (.int .i64 y28)]), (2, .lst true (some 3) (List.map eapi_Item l25)), (3, .var [.d (.int .i64 y29.a0.Places), .d (eL (some 3) eapi_Item y29.a0.L), .d (.int .i64 y29.a0.Lost), .d (.int .i64 y29.a1.Places), .d (eL (some 3) eapi_Item y29.a1.L), .d (.int .i64 y29.a1.Lost)])], 4⟩ ?_ ?_
        · replace h := hv
          refine NWp.block ?_
          obtain ⟨x19, hx19, h⟩ := bindE h
          refine NWp.opsJ ⟨tab [(3, .d (.cptr (some 2) (eA2 (D.int .i64) a0) 0)), (7, .ptr 0 0 0), (8, .ptr 3 0 0), (9, .d (.int .i64 0)), (12, .ptr 4 0 0), (28, .d (eL none (eL (some 4) elaw16_Act) ([a1, a2] : List (List law16_Act)))), (29, .d (.int .i64 2)), (30, .d (.int .i64 0)), (47, .d (eL (some 4) elaw16_Act x5)), (48, .d (.int .i64 (x5.length : Int))), (49, .d (.int .i64 i12))], stab [(0, .var [.ptr 1 0 0, .d (.nilp)]), (1, .var [.loc 2 0 l8.length, .d (.int .i64 i9), .d (.int .i64 i10), .d (.int .i64 i11)]), (2, .lst true (some 3) (List.map eapi_Item l8)), (3, .var [.d (.int .i64 y13.a0.Places), .d (eL (some 3) eapi_Item y13.a0.L), .d (.int .i64 y13.a0.Lost), .d (.int .i64 y13.a1.Places), .d (eL (some 3) eapi_Item y13.a1.L), .d (.int .i64 y13.a1.Lost)]), (4, .var [.d (.int .i64 x19.What), .d (.int .u16 x19.X.Pt), .d (.str x19.X.Raw), .d (.int .i64 x19.X.N)])], 5⟩ ?_ ?_
          · refine step (v := .d (.cptr (some 4) (elaw16_Act x19) 0)) (st_iaddr (xs := x5) (e := elaw16_Act) hx19 rfl rfl) ?_
            refine step (v := .d (elaw16_Act x19)) rfl ?_
            refine step (v := .ptr 4 0 0) (σ' := (upd (stab [(0, .var [.ptr 1 0 0, .d (.nilp)]), (1, .var [.loc 2 0 l8.length, .d (.int .i64 i9), .d (.int .i64 i10), .d (.int .i64 i11)]), (2, .lst true (some 3) (List.map eapi_Item l8)), (3, .var [.d (.int .i64 y13.a0.Places), .d (eL (some 3) eapi_Item y13.a0.L), .d (.int .i64 y13.a0.Lost), .d (.int .i64 y13.a1.Places), .d (eL (some 3) eapi_Item y13.a1.L), .d (.int .i64 y13.a1.Lost)])]) 4 (some (.var [.d (.int .i64 0), .d (.int .u16 0), .d (.str (⟨#[]⟩ : ByteArray)), .d (.int .i64 0)])))) (n' := 5) rfl ?_
            refine step (v := V.undef) (σ' := (upd (upd (stab [(0, .var [.ptr 1 0 0, .d (.nilp)]), (1, .var [.loc 2 0 l8.length, .d (.int .i64 i9), .d (.int .i64 i10), .d (.int .i64 i11)]), (2, .lst true (some 3) (List.map eapi_Item l8)), (3, .var [.d (.int .i64 y13.a0.Places), .d (eL (some 3) eapi_Item y13.a0.L), .d (.int .i64 y13.a0.Lost), .d (.int .i64 y13.a1.Places), .d (eL (some 3) eapi_Item y13.a1.L), .d (.int .i64 y13.a1.Lost)])]) 4 (some (.var [.d (.int .i64 0), .d (.int .u16 0), .d (.str (⟨#[]⟩ : ByteArray)), .d (.int .i64 0)]))) 4 (some (.var [.d (.int .i64 x19.What), .d (.int .u16 x19.X.Pt), .d (.str x19.X.Raw), .d (.int .i64 x19.X.N)])))) (n' := 5) rfl ?_
            exact RunOps.nil' (Norm.mk [0, 1, 2, 3, 4] (by decide) (by decide) (by decide) ⟨.d _, .ptr 0 _ _ (show 0 < 5 by decide), .ptr 3 _ _ (show 3 < 5 by decide), .d _, .ptr 4 _ _ (show 4 < 5 by decide), .d _, .d _, .d _, .d _, .d _, .d _, trivial⟩ ⟨⟨show 0 < 5 by decide, _, rfl, .vars ⟨.ptr 1 _ _ (show 1 < 5 by decide), .d _, trivial⟩⟩, ⟨show 1 < 5 by decide, _, rfl, .vars ⟨.loc 2 _ _ (show 2 < 5 by decide), .d _, .d _, .d _, trivial⟩⟩, ⟨show 2 < 5 by decide, _, rfl, .lst _ _ _⟩, ⟨show 3 < 5 by decide, _, rfl, .vars ⟨.d _, .d _, .d _, .d _, .d _, .d _, trivial⟩⟩, ⟨show 4 < 5 by decide, _, rfl, .vars ⟨.d _, .d _, .d _, .d _, trivial⟩⟩, trivial⟩)
          refine NWp.opsJ ⟨tab [(3, .d (.cptr (some 2) (eA2 (D.int .i64) a0) 0)), (7, .ptr 0 0 0), (8, .ptr 3 0 0), (9, .d (.int .i64 0)), (12, .ptr 4 0 0), (28, .d (eL none (eL (some 4) elaw16_Act) ([a1, a2] : List (List law16_Act)))), (29, .d (.int .i64 2)), (30, .d (.int .i64 0)), (47, .d (eL (some 4) elaw16_Act x5)), (48, .d (.int .i64 (x5.length : Int))), (49, .d (.int .i64 i12)), (55, .d (.bool (x19.What == 0)))], stab [(0, .var [.ptr 1 0 0, .d (.nilp)]), (1, .var [.loc 2 0 l8.length, .d (.int .i64 i9), .d (.int .i64 i10), .d (.int .i64 i11)]), (2, .lst true (some 3) (List.map eapi_Item l8)), (3, .var [.d (.int .i64 y13.a0.Places), .d (eL (some 3) eapi_Item y13.a0.L), .d (.int .i64 y13.a0.Lost), .d (.int .i64 y13.a1.Places), .d (eL (some 3) eapi_Item y13.a1.L), .d (.int .i64 y13.a1.Lost)]), (4, .var [.d (.int .i64 x19.What), .d (.int .u16 x19.X.Pt), .d (.str x19.X.Raw), .d (.int .i64 x19.X.N)])], 5⟩ ?_ ?_
          · refine step (v := .ptr 4 0 0) rfl ?_
            refine step (v := .d (.int .i64 x19.What)) rfl ?_
            refine step (v := .d (.bool (x19.What == 0))) rfl ?_
            exact RunOps.nil' (Norm.mk [0, 1, 2, 3, 4] (by decide) (by decide) (by decide) ⟨.d _, .ptr 0 _ _ (show 0 < 5 by decide), .ptr 3 _ _ (show 3 < 5 by decide), .d _, .ptr 4 _ _ (show 4 < 5 by decide), .d _, .d _, .d _, .d _, .d _, .d _, .d _, trivial⟩ ⟨⟨show 0 < 5 by decide, _, rfl, .vars ⟨.ptr 1 _ _ (show 1 < 5 by decide), .d _, trivial⟩⟩, ⟨show 1 < 5 by decide, _, rfl, .vars ⟨.loc 2 _ _ (show 2 < 5 by decide), .d _, .d _, .d _, trivial⟩⟩, ⟨show 2 < 5 by decide, _, rfl, .lst _ _ _⟩, ⟨show 3 < 5 by decide, _, rfl, .vars ⟨.d _, .d _, .d _, .d _, .d _, .d _, trivial⟩⟩, ⟨show 4 < 5 by decide, _, rfl, .vars ⟨.d _, .d _, .d _, .d _, trivial⟩⟩, trivial⟩)
          by_cases hc20 : (x19.What == 0) = true
          · replace h := iteT hc20 h
            refine NWp.condT (t := (x19.What == 0)) rfl hc20 ?_
            obtain ⟨r21, hr21, h⟩ := bindE h
            refine NWp.opsJ ⟨tab [(3, .d (.cptr (some 2) (eA2 (D.int .i64) a0) 0)), (7, .ptr 0 0 0), (8, .ptr 3 0 0), (9, .d (.int .i64 0)), (12, .ptr 4 0 0), (28, .d (eL none (eL (some 4) elaw16_Act) ([a1, a2] : List (List law16_Act)))), (29, .d (.int .i64 2)), (30, .d (.int .i64 0)), (47, .d (eL (some 4) elaw16_Act x5)), (48, .d (.int .i64 (x5.length : Int))), (49, .d (.int .i64 i12))], stab [(0, .var [.ptr 1 0 0, .d (.nilp)]), (1, .var [.loc 2 0 r21.2.ring.length, .d (.int .i64 r21.2.first), .d (.int .i64 r21.2.n_), .d (.int .i64 r21.2.lost)]), (2, .lst true (some 3) (List.map eapi_Item r21.2.ring)), (3, .var [.d (.int .i64 y13.a0.Places), .d (eL (some 3) eapi_Item y13.a0.L), .d (.int .i64 y13.a0.Lost), .d (.int .i64 y13.a1.Places), .d (eL (some 3) eapi_Item y13.a1.L), .d (.int .i64 y13.a1.Lost)]), (4, .var [.d (.int .i64 x19.What), .d (.int .u16 x19.X.Pt), .d (.str x19.X.Raw), .d (.int .i64 x19.X.N)])], 5⟩ ?_ ?_
            · refine step (v := .d (.int .i64 0)) rfl ?_
              refine step (v := .ptr 0 0 0) rfl ?_
              refine step (v := .ptr 1 0 0) rfl ?_
              refine step (v := .ptr 4 0 1) rfl ?_
              refine step (v := .d (eapi_Item x19.X)) (st_ldV (ds := [.int .u16 x19.X.Pt, .str x19.X.Raw, .int .i64 x19.X.N]) rfl rfl (show 4 ≤ 4 by decide) rfl) ?_
              refine stepW (v := .d (.int .i64 r21.1)) (σ' := (upd (upd (upd (upd (stab [(0, .var [.ptr 1 0 0, .d (.nilp)]), (1, .var [.loc 2 0 l8.length, .d (.int .i64 i9), .d (.int .i64 i10), .d (.int .i64 i11)]), (2, .lst true (some 3) (List.map eapi_Item l8)), (3, .var [.d (.int .i64 y13.a0.Places), .d (eL (some 3) eapi_Item y13.a0.L), .d (.int .i64 y13.a0.Lost), .d (.int .i64 y13.a1.Places), .d (eL (some 3) eapi_Item y13.a1.L), .d (.int .i64 y13.a1.Lost)]), (4, .var [.d (.int .i64 x19.What), .d (.int .u16 x19.X.Pt), .d (.str x19.X.Raw), .d (.int .i64 x19.X.N)])]) 2 none) 1 none) 2 (some (.lst true (some 3) (List.map eapi_Item r21.2.ring)))) 1 (some (.var [.loc 2 0 r21.2.ring.length, .d (.int .i64 r21.2.first), .d (.int .i64 r21.2.n_), .d (.int .i64 r21.2.lost)])))) (n' := 5) (SCall.lift [1, 2] (c_queue_Queue_Push hr21) (show 2 ≤ 2 by decide) (by decide) (show ∀ i ∈ [1, 2], i < 5 by decide) (dom_c (show 0 < 2 by decide) (dom_c (show 1 < 2 by decide) dom_n)) (VNs.c (.ptr 0 _ _ (show 0 < 2 by decide)) (VNs.c (.d _) VNs.nil0)) (SN.c (show 0 < 2 by decide) rfl (.vars (VNs.c (.loc 1 _ _ (show 1 < 2 by decide)) (VNs.c (.d _) (VNs.c (.d _) (VNs.c (.d _) VNs.nil0))))) (SN.c (show 1 < 2 by decide) rfl (.lst _ _ _) SN.nil0))) (show 5 ≤ 5 by decide) ?_
              exact RunOps.nil' (Norm.mk [0, 1, 2, 3, 4] (by decide) (by decide) (by decide) ⟨.d _, .ptr 0 _ _ (show 0 < 5 by decide), .ptr 3 _ _ (show 3 < 5 by decide), .d _, .ptr 4 _ _ (show 4 < 5 by decide), .d _, .d _, .d _, .d _, .d _, .d _, trivial⟩ ⟨⟨show 0 < 5 by decide, _, rfl, .vars ⟨.ptr 1 _ _ (show 1 < 5 by decide), .d _, trivial⟩⟩, ⟨show 1 < 5 by decide, _, rfl, .vars ⟨.loc 2 _ _ (show 2 < 5 by decide), .d _, .d _, .d _, trivial⟩⟩, ⟨show 2 < 5 by decide, _, rfl, .lst _ _ _⟩, ⟨show 3 < 5 by decide, _, rfl, .vars ⟨.d _, .d _, .d _, .d _, .d _, .d _, trivial⟩⟩, ⟨show 4 < 5 by decide, _, rfl, .vars ⟨.d _, .d _, .d _, .d _, trivial⟩⟩, trivial⟩)
            obtain ⟨r22, hr22, h⟩ := bindE h
            have hh := Option.some.inj h
            obtain ⟨he0, ht0⟩ := Prod.mk.inj hh
            obtain ⟨he1, ht1⟩ := Prod.mk.inj ht0
            obtain ⟨he2, ht2⟩ := Prod.mk.inj ht1
            obtain ⟨he3, ht3⟩ := Prod.mk.inj ht2
            subst he0
            subst he1
            subst he2
            subst he3
            subst ht3
            refine NWp.opsE ⟨tab [(3, .d (.cptr (some 2) (eA2 (D.int .i64) a0) 0)), (7, .ptr 0 0 0), (8, .ptr 3 0 0), (9, .d (.int .i64 0)), (28, .d (eL none (eL (some 4) elaw16_Act) ([a1, a2] : List (List law16_Act)))), (29, .d (.int .i64 2)), (30, .d (.int .i64 0)), (47, .d (eL (some 4) elaw16_Act x5)), (48, .d (.int .i64 (x5.length : Int))), (49, .d (.int .i64 i12))], stab [(0, .var [.ptr 1 0 0, .d (.nilp)]), (1, .var [.loc 2 0 r21.2.ring.length, .d (.int .i64 r21.2.first), .d (.int .i64 r21.2.n_), .d (.int .i64 r21.2.lost)]), (2, .lst true (some 3) (List.map eapi_Item r21.2.ring)), (3, .var [.d (.int .i64 ((A2.mk r22.1 y13.a1).a0.Places)), .d (eL (some 3) eapi_Item ((A2.mk r22.1 y13.a1).a0.L)), .d (.int .i64 ((A2.mk r22.1 y13.a1).a0.Lost)), .d (.int .i64 ((A2.mk r22.1 y13.a1).a1.Places)), .d (eL (some 3) eapi_Item ((A2.mk r22.1 y13.a1).a1.L)), .d (.int .i64 ((A2.mk r22.1 y13.a1).a1.Lost))])], 4⟩ ?_ ?_
            · refine step (v := .d (.int .i64 0)) rfl ?_
              refine step (v := .d (.int .i64 0)) rfl ?_
              refine step (v := .ptr 3 0 0) rfl ?_
              refine step (v := .d (eref16_Queue y13.a0)) (st_ldV (ds := [.int .i64 y13.a0.Places, eL (some 3) eapi_Item y13.a0.L, .int .i64 y13.a0.Lost]) rfl rfl (show 3 ≤ 6 by decide) rfl) ?_
              refine step (v := .ptr 4 0 1) rfl ?_
              refine step (v := .d (eapi_Item x19.X)) (st_ldV (ds := [.int .u16 x19.X.Pt, .str x19.X.Raw, .int .i64 x19.X.N]) rfl rfl (show 4 ≤ 4 by decide) rfl) ?_
              refine stepC (r := .tup [eref16_Queue r22.1, .int .i64 r22.2]) (ArgsOk.dt (ArgsOk.dt ArgsOk.nil')) (c_ref16_Queue_Push hr22) ?_
              refine step (v := .d (.tup [eref16_Queue r22.1, .int .i64 r22.2])) rfl ?_
              refine step (v := .d (eref16_Queue r22.1)) rfl ?_
              refine step (v := .d (.int .i64 r22.2)) rfl ?_
              refine step (v := .ptr 3 0 0) rfl ?_
              refine step (v := V.undef) (σ' := (upd (stab [(0, .var [.ptr 1 0 0, .d (.nilp)]), (1, .var [.loc 2 0 r21.2.ring.length, .d (.int .i64 r21.2.first), .d (.int .i64 r21.2.n_), .d (.int .i64 r21.2.lost)]), (2, .lst true (some 3) (List.map eapi_Item r21.2.ring)), (3, .var [.d (.int .i64 y13.a0.Places), .d (eL (some 3) eapi_Item y13.a0.L), .d (.int .i64 y13.a0.Lost), .d (.int .i64 y13.a1.Places), .d (eL (some 3) eapi_Item y13.a1.L), .d (.int .i64 y13.a1.Lost)]), (4, .var [.d (.int .i64 x19.What), .d (.int .u16 x19.X.Pt), .d (.str x19.X.Raw), .d (.int .i64 x19.X.N)])]) 3 (some (.var [.d (.int .i64 r22.1.Places), .d (eL (some 3) eapi_Item r22.1.L), .d (.int .i64 r22.1.Lost), .d (.int .i64 y13.a1.Places), .d (eL (some 3) eapi_Item y13.a1.L), .d (.int .i64 y13.a1.Lost)])))) (n' := 5) rfl ?_
              exact RunOps.nil' (Norm.mk [0, 1, 2, 3] (by decide) (by decide) (by decide) ⟨.d _, .ptr 0 _ _ (show 0 < 4 by decide), .ptr 3 _ _ (show 3 < 4 by decide), .d _, .d _, .d _, .d _, .d _, .d _, .d _, trivial⟩ ⟨⟨show 0 < 4 by decide, _, rfl, .vars ⟨.ptr 1 _ _ (show 1 < 4 by decide), .d _, trivial⟩⟩, ⟨show 1 < 4 by decide, _, rfl, .vars ⟨.loc 2 _ _ (show 2 < 4 by decide), .d _, .d _, .d _, trivial⟩⟩, ⟨show 2 < 4 by decide, _, rfl, .lst _ _ _⟩, ⟨show 3 < 4 by decide, _, rfl, .vars ⟨.d _, .d _, .d _, .d _, .d _, .d _, trivial⟩⟩, trivial⟩)
            exact And.intro rfl rfl
          · replace h := iteF hc20 h
            refine NWp.condF (t := (x19.What == 0)) rfl hc20 ?_
            obtain ⟨r23, hr23, h⟩ := bindE h
            refine NWp.opsJ ⟨tab [(3, .d (.cptr (some 2) (eA2 (D.int .i64) a0) 0)), (7, .ptr 0 0 0), (8, .ptr 3 0 0), (9, .d (.int .i64 0)), (28, .d (eL none (eL (some 4) elaw16_Act) ([a1, a2] : List (List law16_Act)))), (29, .d (.int .i64 2)), (30, .d (.int .i64 0)), (47, .d (eL (some 4) elaw16_Act x5)), (48, .d (.int .i64 (x5.length : Int))), (49, .d (.int .i64 i12))], stab [(0, .var [.ptr 1 0 0, .d (.nilp)]), (1, .var [.loc 2 0 r23.2.2.ring.length, .d (.int .i64 r23.2.2.first), .d (.int .i64 r23.2.2.n_), .d (.int .i64 r23.2.2.lost)]), (2, .lst true (some 3) (List.map eapi_Item r23.2.2.ring)), (3, .var [.d (.int .i64 y13.a0.Places), .d (eL (some 3) eapi_Item y13.a0.L), .d (.int .i64 y13.a0.Lost), .d (.int .i64 y13.a1.Places), .d (eL (some 3) eapi_Item y13.a1.L), .d (.int .i64 y13.a1.Lost)])], 4⟩ ?_ ?_
            · refine step (v := .d (.int .i64 0)) rfl ?_
              refine step (v := .ptr 0 0 0) rfl ?_
              refine step (v := .ptr 1 0 0) rfl ?_
              refine stepW (v := .d (.tup [eapi_Item r23.1, .bool r23.2.1])) (σ' := (upd (upd (upd (upd (stab [(0, .var [.ptr 1 0 0, .d (.nilp)]), (1, .var [.loc 2 0 l8.length, .d (.int .i64 i9), .d (.int .i64 i10), .d (.int .i64 i11)]), (2, .lst true (some 3) (List.map eapi_Item l8)), (3, .var [.d (.int .i64 y13.a0.Places), .d (eL (some 3) eapi_Item y13.a0.L), .d (.int .i64 y13.a0.Lost), .d (.int .i64 y13.a1.Places), .d (eL (some 3) eapi_Item y13.a1.L), .d (.int .i64 y13.a1.Lost)]), (4, .var [.d (.int .i64 x19.What), .d (.int .u16 x19.X.Pt), .d (.str x19.X.Raw), .d (.int .i64 x19.X.N)])]) 2 none) 1 none) 2 (some (.lst true (some 3) (List.map eapi_Item r23.2.2.ring)))) 1 (some (.var [.loc 2 0 r23.2.2.ring.length, .d (.int .i64 r23.2.2.first), .d (.int .i64 r23.2.2.n_), .d (.int .i64 r23.2.2.lost)])))) (n' := 6) (SCall.lift [1, 2] (c_queue_Queue_Pop hr23) (show 2 ≤ 3 by decide) (by decide) (show ∀ i ∈ [1, 2], i < 5 by decide) (dom_c (show 0 < 3 by decide) (dom_c (show 1 < 3 by decide) dom_n)) (VNs.c (.ptr 0 _ _ (show 0 < 2 by decide)) VNs.nil0) (SN.c (show 0 < 2 by decide) rfl (.vars (VNs.c (.loc 1 _ _ (show 1 < 2 by decide)) (VNs.c (.d _) (VNs.c (.d _) (VNs.c (.d _) VNs.nil0))))) (SN.c (show 1 < 2 by decide) rfl (.lst _ _ _) SN.nil0))) (show 5 ≤ 6 by decide) ?_
              exact RunOps.nil' (Norm.mk [0, 1, 2, 3] (by decide) (by decide) (by decide) ⟨.d _, .ptr 0 _ _ (show 0 < 4 by decide), .ptr 3 _ _ (show 3 < 4 by decide), .d _, .d _, .d _, .d _, .d _, .d _, .d _, trivial⟩ ⟨⟨show 0 < 4 by decide, _, rfl, .vars ⟨.ptr 1 _ _ (show 1 < 4 by decide), .d _, trivial⟩⟩, ⟨show 1 < 4 by decide, _, rfl, .vars ⟨.loc 2 _ _ (show 2 < 4 by decide), .d _, .d _, .d _, trivial⟩⟩, ⟨show 2 < 4 by decide, _, rfl, .lst _ _ _⟩, ⟨show 3 < 4 by decide, _, rfl, .vars ⟨.d _, .d _, .d _, .d _, .d _, .d _, trivial⟩⟩, trivial⟩)
            obtain ⟨r24, hr24, h⟩ := bindE h
            have hh := Option.some.inj h
            obtain ⟨he0, ht0⟩ := Prod.mk.inj hh
            obtain ⟨he1, ht1⟩ := Prod.mk.inj ht0
            obtain ⟨he2, ht2⟩ := Prod.mk.inj ht1
            obtain ⟨he3, ht3⟩ := Prod.mk.inj ht2
            subst he0
            subst he1
            subst he2
            subst he3
            subst ht3
            refine NWp.opsE ⟨tab [(3, .d (.cptr (some 2) (eA2 (D.int .i64) a0) 0)), (7, .ptr 0 0 0), (8, .ptr 3 0 0), (9, .d (.int .i64 0)), (28, .d (eL none (eL (some 4) elaw16_Act) ([a1, a2] : List (List law16_Act)))), (29, .d (.int .i64 2)), (30, .d (.int .i64 0)), (47, .d (eL (some 4) elaw16_Act x5)), (48, .d (.int .i64 (x5.length : Int))), (49, .d (.int .i64 i12))], stab [(0, .var [.ptr 1 0 0, .d (.nilp)]), (1, .var [.loc 2 0 r23.2.2.ring.length, .d (.int .i64 r23.2.2.first), .d (.int .i64 r23.2.2.n_), .d (.int .i64 r23.2.2.lost)]), (2, .lst true (some 3) (List.map eapi_Item r23.2.2.ring)), (3, .var [.d (.int .i64 ((A2.mk r24.1 y13.a1).a0.Places)), .d (eL (some 3) eapi_Item ((A2.mk r24.1 y13.a1).a0.L)), .d (.int .i64 ((A2.mk r24.1 y13.a1).a0.Lost)), .d (.int .i64 ((A2.mk r24.1 y13.a1).a1.Places)), .d (eL (some 3) eapi_Item ((A2.mk r24.1 y13.a1).a1.L)), .d (.int .i64 ((A2.mk r24.1 y13.a1).a1.Lost))])], 4⟩ ?_ ?_
            · refine step (v := .d (.int .i64 0)) rfl ?_
              refine step (v := .d (.int .i64 0)) rfl ?_
              refine step (v := .ptr 3 0 0) rfl ?_
              refine step (v := .d (eref16_Queue y13.a0)) (st_ldV (ds := [.int .i64 y13.a0.Places, eL (some 3) eapi_Item y13.a0.L, .int .i64 y13.a0.Lost]) rfl rfl (show 3 ≤ 6 by decide) rfl) ?_
              refine stepC (r := .tup [eref16_Queue r24.1, eapi_Item r24.2.1, .bool r24.2.2]) (ArgsOk.dt ArgsOk.nil') (c_ref16_Queue_Pop hr24) ?_
              refine step (v := .d (.tup [eref16_Queue r24.1, eapi_Item r24.2.1, .bool r24.2.2])) rfl ?_
              refine step (v := .d (eref16_Queue r24.1)) rfl ?_
              refine step (v := .d (eapi_Item r24.2.1)) rfl ?_
              refine step (v := .d (.bool r24.2.2)) rfl ?_
              refine step (v := .ptr 3 0 0) rfl ?_
              refine step (v := V.undef) (σ' := (upd (stab [(0, .var [.ptr 1 0 0, .d (.nilp)]), (1, .var [.loc 2 0 r23.2.2.ring.length, .d (.int .i64 r23.2.2.first), .d (.int .i64 r23.2.2.n_), .d (.int .i64 r23.2.2.lost)]), (2, .lst true (some 3) (List.map eapi_Item r23.2.2.ring)), (3, .var [.d (.int .i64 y13.a0.Places), .d (eL (some 3) eapi_Item y13.a0.L), .d (.int .i64 y13.a0.Lost), .d (.int .i64 y13.a1.Places), .d (eL (some 3) eapi_Item y13.a1.L), .d (.int .i64 y13.a1.Lost)])]) 3 (some (.var [.d (.int .i64 r24.1.Places), .d (eL (some 3) eapi_Item r24.1.L), .d (.int .i64 r24.1.Lost), .d (.int .i64 y13.a1.Places), .d (eL (some 3) eapi_Item y13.a1.L), .d (.int .i64 y13.a1.Lost)])))) (n' := 4) rfl ?_
              exact RunOps.nil' (Norm.mk [0, 1, 2, 3] (by decide) (by decide) (by decide) ⟨.d _, .ptr 0 _ _ (show 0 < 4 by decide), .ptr 3 _ _ (show 3 < 4 by decide), .d _, .d _, .d _, .d _, .d _, .d _, .d _, trivial⟩ ⟨⟨show 0 < 4 by decide, _, rfl, .vars ⟨.ptr 1 _ _ (show 1 < 4 by decide), .d _, trivial⟩⟩, ⟨show 1 < 4 by decide, _, rfl, .vars ⟨.loc 2 _ _ (show 2 < 4 by decide), .d _, .d _, .d _, trivial⟩⟩, ⟨show 2 < 4 by decide, _, rfl, .lst _ _ _⟩, ⟨show 3 < 4 by decide, _, rfl, .vars ⟨.d _, .d _, .d _, .d _, .d _, .d _, trivial⟩⟩, trivial⟩)
            exact And.intro rfl rfl
        have hh := Option.some.inj h
        subst hh
        refine NWp.opsE ⟨tab [(3, .d (.cptr (some 2) (eA2 (D.int .i64) a0) 0)), (7, .ptr 0 0 0), (8, .ptr 3 0 0), (9, .d (.int .i64 0)), (28, .d (eL none (eL (some 4) elaw16_Act) ([a1, a2] : List (List law16_Act)))), (29, .d (.int .i64 2)), (30, .d (.int .i64 0)), (47, .d (eL (some 4) elaw16_Act x5)), (48, .d (.int .i64 (x5.length : Int))), (49, .d (.int .i64 (i12 + 1)))], stab [(0, .var [.ptr 1 0 0, .d (.nilp)]), (1, .var [.loc 2 0 l25.length, .d (.int .i64 y26), .d (.int .i64 y27), .d (.int .i64 y28)]), (2, .lst true (some 3) (List.map eapi_Item l25)), (3, .var [.d (.int .i64 y29.a0.Places), .d (eL (some 3) eapi_Item y29.a0.L), .d (.int .i64 y29.a0.Lost), .d (.int .i64 y29.a1.Places), .d (eL (some 3) eapi_Item y29.a1.L), .d (.int .i64 y29.a1.Lost)])], 4⟩ ?_ ?_
        · refine step (v := .d (.int .i64 (i12 + 1))) (st_inc (inc_ok hinv16 hgo15 hB14) rfl rfl) ?_
          refine step (v := .d (.int .i64 (i12 + 1))) rfl ?_
          exact RunOps.nil' (Norm.mk [0, 1, 2, 3] (by decide) (by decide) (by decide) ⟨.d _, .ptr 0 _ _ (show 0 < 4 by decide), .ptr 3 _ _ (show 3 < 4 by decide), .d _, .d _, .d _, .d _, .d _, .d _, .d _, trivial⟩ ⟨⟨show 0 < 4 by decide, _, rfl, .vars ⟨.ptr 1 _ _ (show 1 < 4 by decide), .d _, trivial⟩⟩, ⟨show 1 < 4 by decide, _, rfl, .vars ⟨.loc 2 _ _ (show 2 < 4 by decide), .d _, .d _, .d _, trivial⟩⟩, ⟨show 2 < 4 by decide, _, rfl, .lst _ _ _⟩, ⟨show 3 < 4 by decide, _, rfl, .vars ⟨.d _, .d _, .d _, .d _, .d _, .d _, trivial⟩⟩, trivial⟩)
        exact And.intro rfl rfl
      · rintro i12 ⟨l8, i9, i10, i11, y13⟩ hinv16 hgo15
        show NWp _ _ _ _ _ ⟨tab [(3, .d (.cptr (some 2) (eA2 (D.int .i64) a0) 0)), (7, .ptr 0 0 0), (8, .ptr 3 0 0), (9, .d (.int .i64 0)), (28, .d (eL none (eL (some 4) elaw16_Act) ([a1, a2] : List (List law16_Act)))), (29, .d (.int .i64 2)), (30, .d (.int .i64 0)), (47, .d (eL (some 4) elaw16_Act x5)), (48, .d (.int .i64 (x5.length : Int))), (49, .d (.int .i64 i12))], stab [(0, .var [.ptr 1 0 0, .d (.nilp)]), (1, .var [.loc 2 0 l8.length, .d (.int .i64 i9), .d (.int .i64 i10), .d (.int .i64 i11)]), (2, .lst true (some 3) (List.map eapi_Item l8)), (3, .var [.d (.int .i64 y13.a0.Places), .d (eL (some 3) eapi_Item y13.a0.L), .d (.int .i64 y13.a0.Lost), .d (.int .i64 y13.a1.Places), .d (eL (some 3) eapi_Item y13.a1.L), .d (.int .i64 y13.a1.Lost)])], 4⟩
        have hc17 : ¬ (decide (i12 < (x5.length : Int)) = true) := fun hq => hgo15 (of_decide_eq_true hq)
        refine NWp.opsJ ⟨tab [(3, .d (.cptr (some 2) (eA2 (D.int .i64) a0) 0)), (7, .ptr 0 0 0), (8, .ptr 3 0 0), (9, .d (.int .i64 0)), (28, .d (eL none (eL (some 4) elaw16_Act) ([a1, a2] : List (List law16_Act)))), (29, .d (.int .i64 2)), (30, .d (.int .i64 0)), (47, .d (eL (some 4) elaw16_Act x5)), (48, .d (.int .i64 (x5.length : Int))), (49, .d (.int .i64 i12)), (50, .d (.bool (decide (i12 < (x5.length : Int)))))], stab [(0, .var [.ptr 1 0 0, .d (.nilp)]), (1, .var [.loc 2 0 l8.length, .d (.int .i64 i9), .d (.int .i64 i10), .d (.int .i64 i11)]), (2, .lst true (some 3) (List.map eapi_Item l8)), (3, .var [.d (.int .i64 y13.a0.Places), .d (eL (some 3) eapi_Item y13.a0.L), .d (.int .i64 y13.a0.Lost), .d (.int .i64 y13.a1.Places), .d (eL (some 3) eapi_Item y13.a1.L), .d (.int .i64 y13.a1.Lost)])], 4⟩ ?_ ?_
        · refine step (v := .d (.bool (decide (i12 < (x5.length : Int))))) rfl ?_
          exact RunOps.nil' (Norm.mk [0, 1, 2, 3] (by decide) (by decide) (by decide) ⟨.d _, .ptr 0 _ _ (show 0 < 4 by decide), .ptr 3 _ _ (show 3 < 4 by decide), .d _, .d _, .d _, .d _, .d _, .d _, .d _, .d _, trivial⟩ ⟨⟨show 0 < 4 by decide, _, rfl, .vars ⟨.ptr 1 _ _ (show 1 < 4 by decide), .d _, trivial⟩⟩, ⟨show 1 < 4 by decide, _, rfl, .vars ⟨.loc 2 _ _ (show 2 < 4 by decide), .d _, .d _, .d _, trivial⟩⟩, ⟨show 2 < 4 by decide, _, rfl, .lst _ _ _⟩, ⟨show 3 < 4 by decide, _, rfl, .vars ⟨.d _, .d _, .d _, .d _, .d _, .d _, trivial⟩⟩, trivial⟩)
        refine NWp.seq ?_
        refine NWp.condF (t := decide (i12 < (x5.length : Int))) rfl hc17 ?_
        refine NWp.norm (s0 := ⟨tab [(3, .d (.cptr (some 2) (eA2 (D.int .i64) a0) 0)), (7, .ptr 0 0 0), (8, .ptr 3 0 0), (28, .d (eL none (eL (some 4) elaw16_Act) ([a1, a2] : List (List law16_Act)))), (29, .d (.int .i64 2)), (30, .d (.int .i64 0))], stab [(0, .var [.ptr 1 0 0, .d (.nilp)]), (1, .var [.loc 2 0 l8.length, .d (.int .i64 i9), .d (.int .i64 i10), .d (.int .i64 i11)]), (2, .lst true (some 3) (List.map eapi_Item l8)), (3, .var [.d (.int .i64 y13.a0.Places), .d (eL (some 3) eapi_Item y13.a0.L), .d (.int .i64 y13.a0.Lost), .d (.int .i64 y13.a1.Places), .d (eL (some 3) eapi_Item y13.a1.L), .d (.int .i64 y13.a1.Lost)])], 4⟩) (Norm.mk [0, 1, 2, 3] (by decide) (by decide) (by decide) ⟨.d _, .ptr 0 _ _ (show 0 < 4 by decide), .ptr 3 _ _ (show 3 < 4 by decide), .d _, .d _, .d _, trivial⟩ ⟨⟨show 0 < 4 by decide, _, rfl, .vars ⟨.ptr 1 _ _ (show 1 < 4 by decide), .d _, trivial⟩⟩, ⟨show 1 < 4 by decide, _, rfl, .vars ⟨.loc 2 _ _ (show 2 < 4 by decide), .d _, .d _, .d _, trivial⟩⟩, ⟨show 2 < 4 by decide, _, rfl, .lst _ _ _⟩, ⟨show 3 < 4 by decide, _, rfl, .vars ⟨.d _, .d _, .d _, .d _, .d _, .d _, trivial⟩⟩, trivial⟩) ?_
        refine NWp.exit ?_
        exact And.intro rfl rfl
      refine NWp.opsE ⟨tab [(3, .d (.cptr (some 2) (eA2 (D.int .i64) a0) 0)), (7, .ptr 0 0 0), (8, .ptr 3 0 0), (28, .d (eL none (eL (some 4) elaw16_Act) ([a1, a2] : List (List law16_Act)))), (29, .d (.int .i64 2)), (30, .d (.int .i64 1))], stab [(0, .var [.ptr 1 0 0, .d (.nilp)]), (1, .var [.loc 2 0 z31.length, .d (.int .i64 z32), .d (.int .i64 z33), .d (.int .i64 z34)]), (2, .lst true (some 3) (List.map eapi_Item z31)), (3, .var [.d (.int .i64 z35.a0.Places), .d (eL (some 3) eapi_Item z35.a0.L), .d (.int .i64 z35.a0.Lost), .d (.int .i64 z35.a1.Places), .d (eL (some 3) eapi_Item z35.a1.L), .d (.int .i64 z35.a1.Lost)])], 4⟩ ?_ ?_
      · refine step (v := .d (.int .i64 1)) rfl ?_
        refine step (v := .d (.int .i64 1)) rfl ?_
        exact RunOps.nil' (Norm.mk [0, 1, 2, 3] (by decide) (by decide) (by decide) ⟨.d _, .ptr 0 _ _ (show 0 < 4 by decide), .ptr 3 _ _ (show 3 < 4 by decide), .d _, .d _, .d _, trivial⟩ ⟨⟨show 0 < 4 by decide, _, rfl, .vars ⟨.ptr 1 _ _ (show 1 < 4 by decide), .d _, trivial⟩⟩, ⟨show 1 < 4 by decide, _, rfl, .vars ⟨.loc 2 _ _ (show 2 < 4 by decide), .d _, .d _, .d _, trivial⟩⟩, ⟨show 2 < 4 by decide, _, rfl, .lst _ _ _⟩, ⟨show 3 < 4 by decide, _, rfl, .vars ⟨.d _, .d _, .d _, .d _, .d _, .d _, trivial⟩⟩, trivial⟩)
      refine NWp.loop ?_
      refine NWp.opsJ ⟨tab [(3, .d (.cptr (some 2) (eA2 (D.int .i64) a0) 0)), (7, .ptr 0 0 0), (8, .ptr 3 0 0), (28, .d (eL none (eL (some 4) elaw16_Act) ([a1, a2] : List (List law16_Act)))), (29, .d (.int .i64 2)), (30, .d (.int .i64 1)), (31, .d (.bool true))], stab [(0, .var [.ptr 1 0 0, .d (.nilp)]), (1, .var [.loc 2 0 z31.length, .d (.int .i64 z32), .d (.int .i64 z33), .d (.int .i64 z34)]), (2, .lst true (some 3) (List.map eapi_Item z31)), (3, .var [.d (.int .i64 z35.a0.Places), .d (eL (some 3) eapi_Item z35.a0.L), .d (.int .i64 z35.a0.Lost), .d (.int .i64 z35.a1.Places), .d (eL (some 3) eapi_Item z35.a1.L), .d (.int .i64 z35.a1.Lost)])], 4⟩ ?_ ?_
      · refine step (v := .d (.bool true)) rfl ?_
        exact RunOps.nil' (Norm.mk [0, 1, 2, 3] (by decide) (by decide) (by decide) ⟨.d _, .ptr 0 _ _ (show 0 < 4 by decide), .ptr 3 _ _ (show 3 < 4 by decide), .d _, .d _, .d _, .d _, trivial⟩ ⟨⟨show 0 < 4 by decide, _, rfl, .vars ⟨.ptr 1 _ _ (show 1 < 4 by decide), .d _, trivial⟩⟩, ⟨show 1 < 4 by decide, _, rfl, .vars ⟨.loc 2 _ _ (show 2 < 4 by decide), .d _, .d _, .d _, trivial⟩⟩, ⟨show 2 < 4 by decide, _, rfl, .lst _ _ _⟩, ⟨show 3 < 4 by decide, _, rfl, .vars ⟨.d _, .d _, .d _, .d _, .d _, .d _, trivial⟩⟩, trivial⟩)
      refine NWp.seq ?_
      refine NWp.condT (t := true) rfl rfl ?_
      refine NWp.skip ?_
      refine NWp.seq ?_
      refine NWp.block ?_
      obtain ⟨x36, hx36, h⟩ := bindE h
      refine NWp.opsJ ⟨tab [(3, .d (.cptr (some 2) (eA2 (D.int .i64) a0) 0)), (7, .ptr 0 0 0), (8, .ptr 3 0 0), (9, .d (.int .i64 1)), (10, .d (eL (some 4) elaw16_Act x36)), (28, .d (eL none (eL (some 4) elaw16_Act) ([a1, a2] : List (List law16_Act)))), (29, .d (.int .i64 2)), (30, .d (.int .i64 1))], stab [(0, .var [.ptr 1 0 0, .d (.nilp)]), (1, .var [.loc 2 0 z31.length, .d (.int .i64 z32), .d (.int .i64 z33), .d (.int .i64 z34)]), (2, .lst true (some 3) (List.map eapi_Item z31)), (3, .var [.d (.int .i64 z35.a0.Places), .d (eL (some 3) eapi_Item z35.a0.L), .d (.int .i64 z35.a0.Lost), .d (.int .i64 z35.a1.Places), .d (eL (some 3) eapi_Item z35.a1.L), .d (.int .i64 z35.a1.Lost)])], 4⟩ ?_ ?_
      · refine step (v := .d (.int .i64 1)) rfl ?_
        refine step (v := .d (.cptr none (eL (some 4) elaw16_Act x36) 0)) (st_iaddr (xs := ([a1, a2] : List (List law16_Act))) (e := (eL (some 4) elaw16_Act)) hx36 rfl rfl) ?_
        refine step (v := .d (eL (some 4) elaw16_Act x36)) rfl ?_
        refine step (v := .d (.int .i64 1)) rfl ?_
        refine step (v := .d (eL (some 4) elaw16_Act x36)) rfl ?_
        exact RunOps.nil' (Norm.mk [0, 1, 2, 3] (by decide) (by decide) (by decide) ⟨.d _, .ptr 0 _ _ (show 0 < 4 by decide), .ptr 3 _ _ (show 3 < 4 by decide), .d _, .d _, .d _, .d _, .d _, trivial⟩ ⟨⟨show 0 < 4 by decide, _, rfl, .vars ⟨.ptr 1 _ _ (show 1 < 4 by decide), .d _, trivial⟩⟩, ⟨show 1 < 4 by decide, _, rfl, .vars ⟨.loc 2 _ _ (show 2 < 4 by decide), .d _, .d _, .d _, trivial⟩⟩, ⟨show 2 < 4 by decide, _, rfl, .lst _ _ _⟩, ⟨show 3 < 4 by decide, _, rfl, .vars ⟨.d _, .d _, .d _, .d _, .d _, .d _, trivial⟩⟩, trivial⟩)
      obtain ⟨r37, hr37, h⟩ := bindE h
      obtain ⟨r38, hr38, h⟩ := bindE h
      refine NWp.opsJ ⟨tab [(3, .d (.cptr (some 2) (eA2 (D.int .i64) a0) 0)), (7, .ptr 0 0 0), (8, .ptr 5 0 0), (9, .d (.int .i64 1)), (10, .d (eL (some 4) elaw16_Act x36)), (28, .d (eL none (eL (some 4) elaw16_Act) ([a1, a2] : List (List law16_Act)))), (29, .d (.int .i64 2)), (30, .d (.int .i64 1))], stab [(0, .var [.ptr 1 0 0, .ptr 3 0 0]), (1, .var [.loc 2 0 z31.length, .d (.int .i64 z32), .d (.int .i64 z33), .d (.int .i64 z34)]), (2, .lst true (some 3) (List.map eapi_Item z31)), (3, .var [.loc 4 0 r37.ring.length, .d (.int .i64 r37.first), .d (.int .i64 r37.n_), .d (.int .i64 r37.lost)]), (4, .lst true (some 3) (List.map eapi_Item r37.ring)), (5, .var [.d (.int .i64 z35.a0.Places), .d (eL (some 3) eapi_Item z35.a0.L), .d (.int .i64 z35.a0.Lost), .d (.int .i64 r38.Places), .d (eL (some 3) eapi_Item r38.L), .d (.int .i64 r38.Lost)])], 6⟩ ?_ ?_
      · refine step (v := .d (.int .i64 1)) rfl ?_
        refine step (v := .d (.int .i64 1)) rfl ?_
        refine step (v := .d (.int .i64 1)) rfl ?_
        refine step (v := .d (.cptr (some 2) (eA2 (D.int .i64) a0) 1)) rfl ?_
        refine step (v := .d (.int .i64 a0.a1)) rfl ?_
        refine stepW (v := .ptr 4 0 0) (σ' := (upd (upd (stab [(0, .var [.ptr 1 0 0, .d (.nilp)]), (1, .var [.loc 2 0 z31.length, .d (.int .i64 z32), .d (.int .i64 z33), .d (.int .i64 z34)]), (2, .lst true (some 3) (List.map eapi_Item z31)), (3, .var [.d (.int .i64 z35.a0.Places), .d (eL (some 3) eapi_Item z35.a0.L), .d (.int .i64 z35.a0.Lost), .d (.int .i64 z35.a1.Places), .d (eL (some 3) eapi_Item z35.a1.L), .d (.int .i64 z35.a1.Lost)])]) 5 (some (.lst true (some 3) (List.map eapi_Item r37.ring)))) 4 (some (.var [.loc 5 0 r37.ring.length, .d (.int .i64 r37.first), .d (.int .i64 r37.n_), .d (.int .i64 r37.lost)])))) (n' := 6) (SCall.lift [] (c_queue_New hr37) (show 0 ≤ 2 by decide) (by decide) (show ∀ i ∈ [], i < 4 by decide) (dom_c (show 0 < 2 by decide) (dom_c (show 1 < 2 by decide) dom_n)) (VNs.c (.d _) VNs.nil0) SN.nil0) (show 4 ≤ 6 by decide) ?_
        refine step (v := .d (.int .i64 1)) rfl ?_
        refine step (v := .d (.cptr (some 2) (eA2 (D.int .i64) a0) 1)) rfl ?_
        refine step (v := .d (.int .i64 a0.a1)) rfl ?_
        refine stepC (r := eref16_Queue r38) (ArgsOk.dt ArgsOk.nil') (c_ref16_New hr38) ?_
        refine step (v := .ptr 0 0 1) rfl ?_
        refine step (v := V.undef) (σ' := (upd (upd (upd (stab [(0, .var [.ptr 1 0 0, .d (.nilp)]), (1, .var [.loc 2 0 z31.length, .d (.int .i64 z32), .d (.int .i64 z33), .d (.int .i64 z34)]), (2, .lst true (some 3) (List.map eapi_Item z31)), (3, .var [.d (.int .i64 z35.a0.Places), .d (eL (some 3) eapi_Item z35.a0.L), .d (.int .i64 z35.a0.Lost), .d (.int .i64 z35.a1.Places), .d (eL (some 3) eapi_Item z35.a1.L), .d (.int .i64 z35.a1.Lost)])]) 5 (some (.lst true (some 3) (List.map eapi_Item r37.ring)))) 4 (some (.var [.loc 5 0 r37.ring.length, .d (.int .i64 r37.first), .d (.int .i64 r37.n_), .d (.int .i64 r37.lost)]))) 0 (some (.var [.ptr 1 0 0, .ptr 4 0 0])))) (n' := 6) rfl ?_
        refine step (v := .ptr 3 0 3) rfl ?_
        refine step (v := V.undef) (σ' := (upd (upd (upd (upd (stab [(0, .var [.ptr 1 0 0, .d (.nilp)]), (1, .var [.loc 2 0 z31.length, .d (.int .i64 z32), .d (.int .i64 z33), .d (.int .i64 z34)]), (2, .lst true (some 3) (List.map eapi_Item z31)), (3, .var [.d (.int .i64 z35.a0.Places), .d (eL (some 3) eapi_Item z35.a0.L), .d (.int .i64 z35.a0.Lost), .d (.int .i64 z35.a1.Places), .d (eL (some 3) eapi_Item z35.a1.L), .d (.int .i64 z35.a1.Lost)])]) 5 (some (.lst true (some 3) (List.map eapi_Item r37.ring)))) 4 (some (.var [.loc 5 0 r37.ring.length, .d (.int .i64 r37.first), .d (.int .i64 r37.n_), .d (.int .i64 r37.lost)]))) 0 (some (.var [.ptr 1 0 0, .ptr 4 0 0]))) 3 (some (.var [.d (.int .i64 z35.a0.Places), .d (eL (some 3) eapi_Item z35.a0.L), .d (.int .i64 z35.a0.Lost), .d (.int .i64 r38.Places), .d (eL (some 3) eapi_Item r38.L), .d (.int .i64 r38.Lost)])))) (n' := 6) rfl ?_
        exact RunOps.nil' (Norm.mk [0, 1, 2, 4, 5, 3] (by decide) (by decide) (by decide) ⟨.d _, .ptr 0 _ _ (show 0 < 6 by decide), .ptr 5 _ _ (show 5 < 6 by decide), .d _, .d _, .d _, .d _, .d _, trivial⟩ ⟨⟨show 0 < 6 by decide, _, rfl, .vars ⟨.ptr 1 _ _ (show 1 < 6 by decide), .ptr 3 _ _ (show 3 < 6 by decide), trivial⟩⟩, ⟨show 1 < 6 by decide, _, rfl, .vars ⟨.loc 2 _ _ (show 2 < 6 by decide), .d _, .d _, .d _, trivial⟩⟩, ⟨show 2 < 6 by decide, _, rfl, .lst _ _ _⟩, ⟨show 3 < 6 by decide, _, rfl, .vars ⟨.loc 4 _ _ (show 4 < 6 by decide), .d _, .d _, .d _, trivial⟩⟩, ⟨show 4 < 6 by decide, _, rfl, .lst _ _ _⟩, ⟨show 5 < 6 by decide, _, rfl, .vars ⟨.d _, .d _, .d _, .d _, .d _, .d _, trivial⟩⟩, trivial⟩)
      refine NWp.opsJ ⟨tab [(3, .d (.cptr (some 2) (eA2 (D.int .i64) a0) 0)), (7, .ptr 0 0 0), (8, .ptr 5 0 0), (9, .d (.int .i64 1)), (28, .d (eL none (eL (some 4) elaw16_Act) ([a1, a2] : List (List law16_Act)))), (29, .d (.int .i64 2)), (30, .d (.int .i64 1)), (47, .d (eL (some 4) elaw16_Act x36)), (48, .d (.int .i64 (x36.length : Int))), (49, .d (.int .i64 0))], stab [(0, .var [.ptr 1 0 0, .ptr 3 0 0]), (1, .var [.loc 2 0 z31.length, .d (.int .i64 z32), .d (.int .i64 z33), .d (.int .i64 z34)]), (2, .lst true (some 3) (List.map eapi_Item z31)), (3, .var [.loc 4 0 r37.ring.length, .d (.int .i64 r37.first), .d (.int .i64 r37.n_), .d (.int .i64 r37.lost)]), (4, .lst true (some 3) (List.map eapi_Item r37.ring)), (5, .var [.d (.int .i64 z35.a0.Places), .d (eL (some 3) eapi_Item z35.a0.L), .d (.int .i64 z35.a0.Lost), .d (.int .i64 r38.Places), .d (eL (some 3) eapi_Item r38.L), .d (.int .i64 r38.Lost)])], 6⟩ ?_ ?_
      · refine step (v := .d (eL (some 4) elaw16_Act x36)) rfl ?_
        refine step (v := .d (.int .i64 (x36.length : Int))) (st_len (xs := x36) (e := elaw16_Act) rfl) ?_
        refine step (v := .d (.int .i64 0)) rfl ?_
        exact RunOps.nil' (Norm.mk [0, 1, 2, 3, 4, 5] (by decide) (by decide) (by decide) ⟨.d _, .ptr 0 _ _ (show 0 < 6 by decide), .ptr 5 _ _ (show 5 < 6 by decide), .d _, .d _, .d _, .d _, .d _, .d _, .d _, trivial⟩ ⟨⟨show 0 < 6 by decide, _, rfl, .vars ⟨.ptr 1 _ _ (show 1 < 6 by decide), .ptr 3 _ _ (show 3 < 6 by decide), trivial⟩⟩, ⟨show 1 < 6 by decide, _, rfl, .vars ⟨.loc 2 _ _ (show 2 < 6 by decide), .d _, .d _, .d _, trivial⟩⟩, ⟨show 2 < 6 by decide, _, rfl, .lst _ _ _⟩, ⟨show 3 < 6 by decide, _, rfl, .vars ⟨.loc 4 _ _ (show 4 < 6 by decide), .d _, .d _, .d _, trivial⟩⟩, ⟨show 4 < 6 by decide, _, rfl, .lst _ _ _⟩, ⟨show 5 < 6 by decide, _, rfl, .vars ⟨.d _, .d _, .d _, .d _, .d _, .d _, trivial⟩⟩, trivial⟩)
      obtain ⟨q88, hl, h⟩ := bindE h
      obtain ⟨z62, z63, z64, z65, z66⟩ := q88
      refine NWp.norm (s0 := ⟨tab [(3, .d (.cptr (some 2) (eA2 (D.int .i64) a0) 0)), (7, .ptr 0 0 0), (8, .ptr 5 0 0), (9, .d (.int .i64 1)), (28, .d (eL none (eL (some 4) elaw16_Act) ([a1, a2] : List (List law16_Act)))), (29, .d (.int .i64 2)), (30, .d (.int .i64 1)), (47, .d (eL (some 4) elaw16_Act x36)), (48, .d (.int .i64 (x36.length : Int))), (49, .d (.int .i64 0))], stab [(0, .var [.ptr 1 0 0, .ptr 3 0 0]), (1, .var [.loc 2 0 z31.length, .d (.int .i64 z32), .d (.int .i64 z33), .d (.int .i64 z34)]), (2, .lst true (some 3) (List.map eapi_Item z31)), (3, .var [.loc 4 0 r37.ring.length, .d (.int .i64 r37.first), .d (.int .i64 r37.n_), .d (.int .i64 r37.lost)]), (4, .lst true (some 3) (List.map eapi_Item r37.ring)), (5, .var [.d (.int .i64 ((A2.mk z35.a0 r38).a0.Places)), .d (eL (some 3) eapi_Item ((A2.mk z35.a0 r38).a0.L)), .d (.int .i64 ((A2.mk z35.a0 r38).a0.Lost)), .d (.int .i64 ((A2.mk z35.a0 r38).a1.Places)), .d (eL (some 3) eapi_Item ((A2.mk z35.a0 r38).a1.L)), .d (.int .i64 ((A2.mk z35.a0 r38).a1.Lost))])], 6⟩) (Norm.mk [0, 1, 2, 3, 4, 5] (by decide) (by decide) (by decide) ⟨.d _, .ptr 0 _ _ (show 0 < 6 by decide), .ptr 5 _ _ (show 5 < 6 by decide), .d _, .d _, .d _, .d _, .d _, .d _, .d _, trivial⟩ ⟨⟨show 0 < 6 by decide, _, rfl, .vars ⟨.ptr 1 _ _ (show 1 < 6 by decide), .ptr 3 _ _ (show 3 < 6 by decide), trivial⟩⟩, ⟨show 1 < 6 by decide, _, rfl, .vars ⟨.loc 2 _ _ (show 2 < 6 by decide), .d _, .d _, .d _, trivial⟩⟩, ⟨show 2 < 6 by decide, _, rfl, .lst _ _ _⟩, ⟨show 3 < 6 by decide, _, rfl, .vars ⟨.loc 4 _ _ (show 4 < 6 by decide), .d _, .d _, .d _, trivial⟩⟩, ⟨show 4 < 6 by decide, _, rfl, .lst _ _ _⟩, ⟨show 5 < 6 by decide, _, rfl, .vars ⟨.d _, .d _, .d _, .d _, .d _, .d _, trivial⟩⟩, trivial⟩) ?_
      refine NWp.block ?_
      refine loop_forO (cntU (x36.length : Int)) (fun (i43 : Int) (qq : ((List api_Item) × Int × Int × Int × (A2 ref16_Queue))) => ⟨tab [(3, .d (.cptr (some 2) (eA2 (D.int .i64) a0) 0)), (7, .ptr 0 0 0), (8, .ptr 5 0 0), (9, .d (.int .i64 1)), (28, .d (eL none (eL (some 4) elaw16_Act) ([a1, a2] : List (List law16_Act)))), (29, .d (.int .i64 2)), (30, .d (.int .i64 1)), (47, .d (eL (some 4) elaw16_Act x36)), (48, .d (.int .i64 (x36.length : Int))), (49, .d (.int .i64 i43))], stab [(0, .var [.ptr 1 0 0, .ptr 3 0 0]), (1, .var [.loc 2 0 z31.length, .d (.int .i64 z32), .d (.int .i64 z33), .d (.int .i64 z34)]), (2, .lst true (some 3) (List.map eapi_Item z31)), (3, .var [.loc 4 0 qq.1.length, .d (.int .i64 qq.2.1), .d (.int .i64 qq.2.2.1), .d (.int .i64 qq.2.2.2.1)]), (4, .lst true (some 3) (List.map eapi_Item qq.1)), (5, .var [.d (.int .i64 qq.2.2.2.2.a0.Places), .d (eL (some 3) eapi_Item qq.2.2.2.2.a0.L), .d (.int .i64 qq.2.2.2.2.a0.Lost), .d (.int .i64 qq.2.2.2.2.a1.Places), .d (eL (some 3) eapi_Item qq.2.2.2.2.a1.L), .d (.int .i64 qq.2.2.2.2.a1.Lost)])], 6⟩) 2 (fun (qq : ((List api_Item) × Int × Int × Int × (A2 ref16_Queue))) => ⟨tab [(3, .d (.cptr (some 2) (eA2 (D.int .i64) a0) 0)), (7, .ptr 0 0 0), (8, .ptr 5 0 0), (28, .d (eL none (eL (some 4) elaw16_Act) ([a1, a2] : List (List law16_Act)))), (29, .d (.int .i64 2)), (30, .d (.int .i64 1))], stab [(0, .var [.ptr 1 0 0, .ptr 3 0 0]), (1, .var [.loc 2 0 z31.length, .d (.int .i64 z32), .d (.int .i64 z33), .d (.int .i64 z34)]), (2, .lst true (some 3) (List.map eapi_Item z31)), (3, .var [.loc 4 0 qq.1.length, .d (.int .i64 qq.2.1), .d (.int .i64 qq.2.2.1), .d (.int .i64 qq.2.2.2.1)]), (4, .lst true (some 3) (List.map eapi_Item qq.1)), (5, .var [.d (.int .i64 qq.2.2.2.2.a0.Places), .d (eL (some 3) eapi_Item qq.2.2.2.2.a0.L), .d (.int .i64 qq.2.2.2.2.a0.Lost), .d (.int .i64 qq.2.2.2.2.a1.Places), .d (eL (some 3) eapi_Item qq.2.2.2.2.a1.L), .d (.int .i64 qq.2.2.2.2.a1.Lost)])], 6⟩) Low low_step hl (by unfold Low; omega) ?_ ?_ ?_
      · rintro i43 ⟨l39, i40, i41, i42, y44⟩ xr49 hinv47 hgo46 h
        show NWp _ _ _ _ _ ⟨tab [(3, .d (.cptr (some 2) (eA2 (D.int .i64) a0) 0)), (7, .ptr 0 0 0), (8, .ptr 5 0 0), (9, .d (.int .i64 1)), (28, .d (eL none (eL (some 4) elaw16_Act) ([a1, a2] : List (List law16_Act)))), (29, .d (.int .i64 2)), (30, .d (.int .i64 1)), (47, .d (eL (some 4) elaw16_Act x36)), (48, .d (.int .i64 (x36.length : Int))), (49, .d (.int .i64 i43))], stab [(0, .var [.ptr 1 0 0, .ptr 3 0 0]), (1, .var [.loc 2 0 z31.length, .d (.int .i64 z32), .d (.int .i64 z33), .d (.int .i64 z34)]), (2, .lst true (some 3) (List.map eapi_Item z31)), (3, .var [.loc 4 0 l39.length, .d (.int .i64 i40), .d (.int .i64 i41), .d (.int .i64 i42)]), (4, .lst true (some 3) (List.map eapi_Item l39)), (5, .var [.d (.int .i64 y44.a0.Places), .d (eL (some 3) eapi_Item y44.a0.L), .d (.int .i64 y44.a0.Lost), .d (.int .i64 y44.a1.Places), .d (eL (some 3) eapi_Item y44.a1.L), .d (.int .i64 y44.a1.Lost)])], 6⟩
        have hc48 : decide (i43 < (x36.length : Int)) = true := decide_eq_true hgo46
        refine NWp.opsJ ⟨tab [(3, .d (.cptr (some 2) (eA2 (D.int .i64) a0) 0)), (7, .ptr 0 0 0), (8, .ptr 5 0 0), (9, .d (.int .i64 1)), (28, .d (eL none (eL (some 4) elaw16_Act) ([a1, a2] : List (List law16_Act)))), (29, .d (.int .i64 2)), (30, .d (.int .i64 1)), (47, .d (eL (some 4) elaw16_Act x36)), (48, .d (.int .i64 (x36.length : Int))), (49, .d (.int .i64 i43)), (50, .d (.bool (decide (i43 < (x36.length : Int)))))], stab [(0, .var [.ptr 1 0 0, .ptr 3 0 0]), (1, .var [.loc 2 0 z31.length, .d (.int .i64 z32), .d (.int .i64 z33), .d (.int .i64 z34)]), (2, .lst true (some 3) (List.map eapi_Item z31)), (3, .var [.loc 4 0 l39.length, .d (.int .i64 i40), .d (.int .i64 i41), .d (.int .i64 i42)]), (4, .lst true (some 3) (List.map eapi_Item l39)), (5, .var [.d (.int .i64 y44.a0.Places), .d (eL (some 3) eapi_Item y44.a0.L), .d (.int .i64 y44.a0.Lost), .d (.int .i64 y44.a1.Places), .d (eL (some 3) eapi_Item y44.a1.L), .d (.int .i64 y44.a1.Lost)])], 6⟩ ?_ ?_
        · refine step (v := .d (.bool (decide (i43 < (x36.length : Int))))) rfl ?_
          exact RunOps.nil' (Norm.mk [0, 1, 2, 3, 4, 5] (by decide) (by decide) (by decide) ⟨.d _, .ptr 0 _ _ (show 0 < 6 by decide), .ptr 5 _ _ (show 5 < 6 by decide), .d _, .d _, .d _, .d _, .d _, .d _, .d _, .d _, trivial⟩ ⟨⟨show 0 < 6 by decide, _, rfl, .vars ⟨.ptr 1 _ _ (show 1 < 6 by decide), .ptr 3 _ _ (show 3 < 6 by decide), trivial⟩⟩, ⟨show 1 < 6 by decide, _, rfl, .vars ⟨.loc 2 _ _ (show 2 < 6 by decide), .d _, .d _, .d _, trivial⟩⟩, ⟨show 2 < 6 by decide, _, rfl, .lst _ _ _⟩, ⟨show 3 < 6 by decide, _, rfl, .vars ⟨.loc 4 _ _ (show 4 < 6 by decide), .d _, .d _, .d _, trivial⟩⟩, ⟨show 4 < 6 by decide, _, rfl, .lst _ _ _⟩, ⟨show 5 < 6 by decide, _, rfl, .vars ⟨.d _, .d _, .d _, .d _, .d _, .d _, trivial⟩⟩, trivial⟩)
        refine NWp.rng 48 rfl fun hB45 => ?_
        refine NWp.seq ?_
        refine NWp.condT (t := decide (i43 < (x36.length : Int))) rfl hc48 ?_
        refine NWp.skip ?_
        obtain ⟨q61, hv, h⟩ := bindE h
        obtain ⟨l56, y57, y58, y59, y60⟩ := q61
        refine NWp.seqN ⟨tab [(3, .d (.cptr (some 2) (eA2 (D.int .i64) a0) 0)), (7, .ptr 0 0 0), (8, .ptr 5 0 0), (9, .d (.int .i64 1)), (28, .d (eL none (eL (some 4) elaw16_Act) ([a1, a2] : List (List law16_Act)))), (29, .d (.int .i64 2)), (30, .d (.int .i64 1)), (47, .d (eL (some 4) elaw16_Act x36)), (48, .d (.int .i64 (x36.length : Int))), (49, .d (.int .i64 i43))], stab [(0, .var [.ptr 1 0 0, .ptr 3 0 0]), (1, .var [.loc 2 0 z31.length, .d (.int .i64 z32), .d (.int .i64 z33), .d (.int .i64 z34)]), (2, .lst true (some 3) (List.map eapi_Item z31)), (3, .var [.loc 4 0 l56.length, .d (.int .i64 y57), .d (.int .i64 y58), .d (.int .i64 y59)]), (4, .lst true (some 3) (List.map eapi_Item l56)), (5, .var [.d (.int .i64 y60.a0.Places), .d (eL (some 3) eapi_Item y60.a0.L), .d (.int .i64 y60.a0.Lost), .d (.int .i64 y60.a1.Places), .d (eL (some 3) eapi_Item y60.a1.L), .d (.int .i64 y60.a1.Lost)])], 6⟩ ?_ ?_
        · replace h := hv
          refine NWp.block ?_
          obtain ⟨x50, hx50, h⟩ := bindE h
          refine NWp.opsJ ⟨tab [(3, .d (.cptr (some 2) (eA2 (D.int .i64) a0) 0)), (7, .ptr 0 0 0), (8, .ptr 5 0 0), (9, .d (.int .i64 1)), (12, .ptr 6 0 0), (28, .d (eL none (eL (some 4) elaw16_Act) ([a1, a2] : List (List law16_Act)))), (29, .d (.int .i64 2)), (30, .d (.int .i64 1)), (47, .d (eL (some 4) elaw16_Act x36)), (48, .d (.int .i64 (x36.length : Int))), (49, .d (.int .i64 i43))], stab [(0, .var [.ptr 1 0 0, .ptr 3 0 0]), (1, .var [.loc 2 0 z31.length, .d (.int .i64 z32), .d (.int .i64 z33), .d (.int .i64 z34)]), (2, .lst true (some 3) (List.map eapi_Item z31)), (3, .var [.loc 4 0 l39.length, .d (.int .i64 i40), .d (.int .i64 i41), .d (.int .i64 i42)]), (4, .lst true (some 3) (List.map eapi_Item l39)), (5, .var [.d (.int .i64 y44.a0.Places), .d (eL (some 3) eapi_Item y44.a0.L), .d (.int .i64 y44.a0.Lost), .d (.int .i64 y44.a1.Places), .d (eL (some 3) eapi_Item y44.a1.L), .d (.int .i64 y44.a1.Lost)]), (6, .var [.d (.int .i64 x50.What), .d (.int .u16 x50.X.Pt), .d (.str x50.X.Raw), .d (.int .i64 x50.X.N)])], 7⟩ ?_ ?_
          · refine step (v := .d (.cptr (some 4) (elaw16_Act x50) 0)) (st_iaddr (xs := x36) (e := elaw16_Act) hx50 rfl rfl) ?_
            refine step (v := .d (elaw16_Act x50)) rfl ?_
            refine step (v := .ptr 6 0 0) (σ' := (upd (stab [(0, .var [.ptr 1 0 0, .ptr 3 0 0]), (1, .var [.loc 2 0 z31.length, .d (.int .i64 z32), .d (.int .i64 z33), .d (.int .i64 z34)]), (2, .lst true (some 3) (List.map eapi_Item z31)), (3, .var [.loc 4 0 l39.length, .d (.int .i64 i40), .d (.int .i64 i41), .d (.int .i64 i42)]), (4, .lst true (some 3) (List.map eapi_Item l39)), (5, .var [.d (.int .i64 y44.a0.Places), .d (eL (some 3) eapi_Item y44.a0.L), .d (.int .i64 y44.a0.Lost), .d (.int .i64 y44.a1.Places), .d (eL (some 3) eapi_Item y44.a1.L), .d (.int .i64 y44.a1.Lost)])]) 6 (some (.var [.d (.int .i64 0), .d (.int .u16 0), .d (.str (⟨#[]⟩ : ByteArray)), .d (.int .i64 0)])))) (n' := 7) rfl ?_
            refine step (v := V.undef) (σ' := (upd (upd (stab [(0, .var [.ptr 1 0 0, .ptr 3 0 0]), (1, .var [.loc 2 0 z31.length, .d (.int .i64 z32), .d (.int .i64 z33), .d (.int .i64 z34)]), (2, .lst true (some 3) (List.map eapi_Item z31)), (3, .var [.loc 4 0 l39.length, .d (.int .i64 i40), .d (.int .i64 i41), .d (.int .i64 i42)]), (4, .lst true (some 3) (List.map eapi_Item l39)), (5, .var [.d (.int .i64 y44.a0.Places), .d (eL (some 3) eapi_Item y44.a0.L), .d (.int .i64 y44.a0.Lost), .d (.int .i64 y44.a1.Places), .d (eL (some 3) eapi_Item y44.a1.L), .d (.int .i64 y44.a1.Lost)])]) 6 (some (.var [.d (.int .i64 0), .d (.int .u16 0), .d (.str (⟨#[]⟩ : ByteArray)), .d (.int .i64 0)]))) 6 (some (.var [.d (.int .i64 x50.What), .d (.int .u16 x50.X.Pt), .d (.str x50.X.Raw), .d (.int .i64 x50.X.N)])))) (n' := 7) rfl ?_
            exact RunOps.nil' (Norm.mk [0, 1, 2, 3, 4, 5, 6] (by decide) (by decide) (by decide) ⟨.d _, .ptr 0 _ _ (show 0 < 7 by decide), .ptr 5 _ _ (show 5 < 7 by decide), .d _, .ptr 6 _ _ (show 6 < 7 by decide), .d _, .d _, .d _, .d _, .d _, .d _, trivial⟩ ⟨⟨show 0 < 7 by decide, _, rfl, .vars ⟨.ptr 1 _ _ (show 1 < 7 by decide), .ptr 3 _ _ (show 3 < 7 by decide), trivial⟩⟩, ⟨show 1 < 7 by decide, _, rfl, .vars ⟨.loc 2 _ _ (show 2 < 7 by decide), .d _, .d _, .d _, trivial⟩⟩, ⟨show 2 < 7 by decide, _, rfl, .lst _ _ _⟩, ⟨show 3 < 7 by decide, _, rfl, .vars ⟨.loc 4 _ _ (show 4 < 7 by decide), .d _, .d _, .d _, trivial⟩⟩, ⟨show 4 < 7 by decide, _, rfl, .lst _ _ _⟩, ⟨show 5 < 7 by decide, _, rfl, .vars ⟨.d _, .d _, .d _, .d _, .d _, .d _, trivial⟩⟩, ⟨show 6 < 7 by decide, _, rfl, .vars ⟨.d _, .d _, .d _, .d _, trivial⟩⟩, trivial⟩)
          refine NWp.opsJ ⟨tab [(3, .d (.cptr (some 2) (eA2 (D.int .i64) a0) 0)), (7, .ptr 0 0 0), (8, .ptr 5 0 0), (9, .d (.int .i64 1)), (12, .ptr 6 0 0), (28, .d (eL none (eL (some 4) elaw16_Act) ([a1, a2] : List (List law16_Act)))), (29, .d (.int .i64 2)), (30, .d (.int .i64 1)), (47, .d (eL (some 4) elaw16_Act x36)), (48, .d (.int .i64 (x36.length : Int))), (49, .d (.int .i64 i43)), (55, .d (.bool (x50.What == 0)))], stab [(0, .var [.ptr 1 0 0, .ptr 3 0 0]), (1, .var [.loc 2 0 z31.length, .d (.int .i64 z32), .d (.int .i64 z33), .d (.int .i64 z34)]), (2, .lst true (some 3) (List.map eapi_Item z31)), (3, .var [.loc 4 0 l39.length, .d (.int .i64 i40), .d (.int .i64 i41), .d (.int .i64 i42)]), (4, .lst true (some 3) (List.map eapi_Item l39)), (5, .var [.d (.int .i64 y44.a0.Places), .d (eL (some 3) eapi_Item y44.a0.L), .d (.int .i64 y44.a0.Lost), .d (.int .i64 y44.a1.Places), .d (eL (some 3) eapi_Item y44.a1.L), .d (.int .i64 y44.a1.Lost)]), (6, .var [.d (.int .i64 x50.What), .d (.int .u16 x50.X.Pt), .d (.str x50.X.Raw), .d (.int .i64 x50.X.N)])], 7⟩ ?_ ?_
          · refine step (v := .ptr 6 0 0) rfl ?_
            refine step (v := .d (.int .i64 x50.What)) rfl ?_
            refine step (v := .d (.bool (x50.What == 0))) rfl ?_
            exact RunOps.nil' (Norm.mk [0, 1, 2, 3, 4, 5, 6] (by decide) (by decide) (by decide) ⟨.d _, .ptr 0 _ _ (show 0 < 7 by decide), .ptr 5 _ _ (show 5 < 7 by decide), .d _, .ptr 6 _ _ (show 6 < 7 by decide), .d _, .d _, .d _, .d _, .d _, .d _, .d _, trivial⟩ ⟨⟨show 0 < 7 by decide, _, rfl, .vars ⟨.ptr 1 _ _ (show 1 < 7 by decide), .ptr 3 _ _ (show 3 < 7 by decide), trivial⟩⟩, ⟨show 1 < 7 by decide, _, rfl, .vars ⟨.loc 2 _ _ (show 2 < 7 by decide), .d _, .d _, .d _, trivial⟩⟩, ⟨show 2 < 7 by decide, _, rfl, .lst _ _ _⟩, ⟨show 3 < 7 by decide, _, rfl, .vars ⟨.loc 4 _ _ (show 4 < 7 by decide), .d _, .d _, .d _, trivial⟩⟩, ⟨show 4 < 7 by decide, _, rfl, .lst _ _ _⟩, ⟨show 5 < 7 by decide, _, rfl, .vars ⟨.d _, .d _, .d _, .d _, .d _, .d _, trivial⟩⟩, ⟨show 6 < 7 by decide, _, rfl, .vars ⟨.d _, .d _, .d _, .d _, trivial⟩⟩, trivial⟩)
          by_cases hc51 : (x50.What == 0) = true
          · replace h := iteT hc51 h
            refine NWp.condT (t := (x50.What == 0)) rfl hc51 ?_
            obtain ⟨r52, hr52, h⟩ := bindE h
            refine NWp.opsJ ⟨tab [(3, .d (.cptr (some 2) (eA2 (D.int .i64) a0) 0)), (7, .ptr 0 0 0), (8, .ptr 5 0 0), (9, .d (.int .i64 1)), (12, .ptr 6 0 0), (28, .d (eL none (eL (some 4) elaw16_Act) ([a1, a2] : List (List law16_Act)))), (29, .d (.int .i64 2)), (30, .d (.int .i64 1)), (47, .d (eL (some 4) elaw16_Act x36)), (48, .d (.int .i64 (x36.length : Int))), (49, .d (.int .i64 i43))], stab [(0, .var [.ptr 1 0 0, .ptr 3 0 0]), (1, .var [.loc 2 0 z31.length, .d (.int .i64 z32), .d (.int .i64 z33), .d (.int .i64 z34)]), (2, .lst true (some 3) (List.map eapi_Item z31)), (3, .var [.loc 4 0 r52.2.ring.length, .d (.int .i64 r52.2.first), .d (.int .i64 r52.2.n_), .d (.int .i64 r52.2.lost)]), (4, .lst true (some 3) (List.map eapi_Item r52.2.ring)), (5, .var [.d (.int .i64 y44.a0.Places), .d (eL (some 3) eapi_Item y44.a0.L), .d (.int .i64 y44.a0.Lost), .d (.int .i64 y44.a1.Places), .d (eL (some 3) eapi_Item y44.a1.L), .d (.int .i64 y44.a1.Lost)]), (6, .var [.d (.int .i64 x50.What), .d (.int .u16 x50.X.Pt), .d (.str x50.X.Raw), .d (.int .i64 x50.X.N)])], 7⟩ ?_ ?_
            · refine step (v := .d (.int .i64 1)) rfl ?_
              refine step (v := .ptr 0 0 1) rfl ?_
              refine step (v := .ptr 3 0 0) rfl ?_
              refine step (v := .ptr 6 0 1) rfl ?_
              refine step (v := .d (eapi_Item x50.X)) (st_ldV (ds := [.int .u16 x50.X.Pt, .str x50.X.Raw, .int .i64 x50.X.N]) rfl rfl (show 4 ≤ 4 by decide) rfl) ?_
              refine stepW (v := .d (.int .i64 r52.1)) (σ' := (upd (upd (upd (upd (stab [(0, .var [.ptr 1 0 0, .ptr 3 0 0]), (1, .var [.loc 2 0 z31.length, .d (.int .i64 z32), .d (.int .i64 z33), .d (.int .i64 z34)]), (2, .lst true (some 3) (List.map eapi_Item z31)), (3, .var [.loc 4 0 l39.length, .d (.int .i64 i40), .d (.int .i64 i41), .d (.int .i64 i42)]), (4, .lst true (some 3) (List.map eapi_Item l39)), (5, .var [.d (.int .i64 y44.a0.Places), .d (eL (some 3) eapi_Item y44.a0.L), .d (.int .i64 y44.a0.Lost), .d (.int .i64 y44.a1.Places), .d (eL (some 3) eapi_Item y44.a1.L), .d (.int .i64 y44.a1.Lost)]), (6, .var [.d (.int .i64 x50.What), .d (.int .u16 x50.X.Pt), .d (.str x50.X.Raw), .d (.int .i64 x50.X.N)])]) 4 none) 3 none) 4 (some (.lst true (some 3) (List.map eapi_Item r52.2.ring)))) 3 (some (.var [.loc 4 0 r52.2.ring.length, .d (.int .i64 r52.2.first), .d (.int .i64 r52.2.n_), .d (.int .i64 r52.2.lost)])))) (n' := 7) (SCall.lift [3, 4] (c_queue_Queue_Push hr52) (show 2 ≤ 2 by decide) (by decide) (show ∀ i ∈ [3, 4], i < 7 by decide) (dom_c (show 0 < 2 by decide) (dom_c (show 1 < 2 by decide) dom_n)) (VNs.c (.ptr 0 _ _ (show 0 < 2 by decide)) (VNs.c (.d _) VNs.nil0)) (SN.c (show 0 < 2 by decide) rfl (.vars (VNs.c (.loc 1 _ _ (show 1 < 2 by decide)) (VNs.c (.d _) (VNs.c (.d _) (VNs.c (.d _) VNs.nil0))))) (SN.c (show 1 < 2 by decide) rfl (.lst _ _ _) SN.nil0))) (show 7 ≤ 7 by decide) ?_
              exact RunOps.nil' (Norm.mk [0, 1, 2, 3, 4, 5, 6] (by decide) (by decide) (by decide) ⟨.d _, .ptr 0 _ _ (show 0 < 7 by decide), .ptr 5 _ _ (show 5 < 7 by decide), .d _, .ptr 6 _ _ (show 6 < 7 by decide), .d _, .d _, .d _, .d _, .d _, .d _, trivial⟩ ⟨⟨show 0 < 7 by decide, _, rfl, .vars ⟨.ptr 1 _ _ (show 1 < 7 by decide), .ptr 3 _ _ (show 3 < 7 by decide), trivial⟩⟩, ⟨show 1 < 7 by decide, _, rfl, .vars ⟨.loc 2 _ _ (show 2 < 7 by decide), .d _, .d _, .d _, trivial⟩⟩, ⟨show 2 < 7 by decide, _, rfl, .lst _ _ _⟩, ⟨show 3 < 7 by decide, _, rfl, .vars ⟨.loc 4 _ _ (show 4 < 7 by decide), .d _, .d _, .d _, trivial⟩⟩, ⟨show 4 < 7 by decide, _, rfl, .lst _ _ _⟩, ⟨show 5 < 7 by decide, _, rfl, .vars ⟨.d _, .d _, .d _, .d _, .d _, .d _, trivial⟩⟩, ⟨show 6 < 7 by decide, _, rfl, .vars ⟨.d _, .d _, .d _, .d _, trivial⟩⟩, trivial⟩)
            obtain ⟨r53, hr53, h⟩ := bindE h
            have hh := Option.some.inj h
            obtain ⟨he0, ht0⟩ := Prod.mk.inj hh
            obtain ⟨he1, ht1⟩ := Prod.mk.inj ht0
            obtain ⟨he2, ht2⟩ := Prod.mk.inj ht1
            obtain ⟨he3, ht3⟩ := Prod.mk.inj ht2
            subst he0
            subst he1
            subst he2
            subst he3
            subst ht3
            refine NWp.opsE ⟨tab [(3, .d (.cptr (some 2) (eA2 (D.int .i64) a0) 0)), (7, .ptr 0 0 0), (8, .ptr 5 0 0), (9, .d (.int .i64 1)), (28, .d (eL none (eL (some 4) elaw16_Act) ([a1, a2] : List (List law16_Act)))), (29, .d (.int .i64 2)), (30, .d (.int .i64 1)), (47, .d (eL (some 4) elaw16_Act x36)), (48, .d (.int .i64 (x36.length : Int))), (49, .d (.int .i64 i43))], stab [(0, .var [.ptr 1 0 0, .ptr 3 0 0]), (1, .var [.loc 2 0 z31.length, .d (.int .i64 z32), .d (.int .i64 z33), .d (.int .i64 z34)]), (2, .lst true (some 3) (List.map eapi_Item z31)), (3, .var [.loc 4 0 r52.2.ring.length, .d (.int .i64 r52.2.first), .d (.int .i64 r52.2.n_), .d (.int .i64 r52.2.lost)]), (4, .lst true (some 3) (List.map eapi_Item r52.2.ring)), (5, .var [.d (.int .i64 ((A2.mk y44.a0 r53.1).a0.Places)), .d (eL (some 3) eapi_Item ((A2.mk y44.a0 r53.1).a0.L)), .d (.int .i64 ((A2.mk y44.a0 r53.1).a0.Lost)), .d (.int .i64 ((A2.mk y44.a0 r53.1).a1.Places)), .d (eL (some 3) eapi_Item ((A2.mk y44.a0 r53.1).a1.L)), .d (.int .i64 ((A2.mk y44.a0 r53.1).a1.Lost))])], 6⟩ ?_ ?_
            · refine step (v := .d (.int .i64 1)) rfl ?_
              refine step (v := .d (.int .i64 1)) rfl ?_
              refine step (v := .ptr 5 0 3) rfl ?_
              refine step (v := .d (eref16_Queue y44.a1)) (st_ldV (ds := [.int .i64 y44.a1.Places, eL (some 3) eapi_Item y44.a1.L, .int .i64 y44.a1.Lost]) rfl rfl (show 6 ≤ 6 by decide) rfl) ?_
              refine step (v := .ptr 6 0 1) rfl ?_
              refine step (v := .d (eapi_Item x50.X)) (st_ldV (ds := [.int .u16 x50.X.Pt, .str x50.X.Raw, .int .i64 x50.X.N]) rfl rfl (show 4 ≤ 4 by decide) rfl) ?_
              refine stepC (r := .tup [eref16_Queue r53.1, .int .i64 r53.2]) (ArgsOk.dt (ArgsOk.dt ArgsOk.nil')) (c_ref16_Queue_Push hr53) ?_
              refine step (v := .d (.tup [eref16_Queue r53.1, .int .i64 r53.2])) rfl ?_
              refine step (v := .d (eref16_Queue r53.1)) rfl ?_
              refine step (v := .d (.int .i64 r53.2)) rfl ?_
              refine step (v := .ptr 5 0 3) rfl ?_
              refine step (v := V.undef) (σ' := (upd (stab [(0, .var [.ptr 1 0 0, .ptr 3 0 0]), (1, .var [.loc 2 0 z31.length, .d (.int .i64 z32), .d (.int .i64 z33), .d (.int .i64 z34)]), (2, .lst true (some 3) (List.map eapi_Item z31)), (3, .var [.loc 4 0 r52.2.ring.length, .d (.int .i64 r52.2.first), .d (.int .i64 r52.2.n_), .d (.int .i64 r52.2.lost)]), (4, .lst true (some 3) (List.map eapi_Item r52.2.ring)), (5, .var [.d (.int .i64 y44.a0.Places), .d (eL (some 3) eapi_Item y44.a0.L), .d (.int .i64 y44.a0.Lost), .d (.int .i64 y44.a1.Places), .d (eL (some 3) eapi_Item y44.a1.L), .d (.int .i64 y44.a1.Lost)]), (6, .var [.d (.int .i64 x50.What), .d (.int .u16 x50.X.Pt), .d (.str x50.X.Raw), .d (.int .i64 x50.X.N)])]) 5 (some (.var [.d (.int .i64 y44.a0.Places), .d (eL (some 3) eapi_Item y44.a0.L), .d (.int .i64 y44.a0.Lost), .d (.int .i64 r53.1.Places), .d (eL (some 3) eapi_Item r53.1.L), .d (.int .i64 r53.1.Lost)])))) (n' := 7) rfl ?_
              exact RunOps.nil' (Norm.mk [0, 1, 2, 3, 4, 5] (by decide) (by decide) (by decide) ⟨.d _, .ptr 0 _ _ (show 0 < 6 by decide), .ptr 5 _ _ (show 5 < 6 by decide), .d _, .d _, .d _, .d _, .d _, .d _, .d _, trivial⟩ ⟨⟨show 0 < 6 by decide, _, rfl, .vars ⟨.ptr 1 _ _ (show 1 < 6 by decide), .ptr 3 _ _ (show 3 < 6 by decide), trivial⟩⟩, ⟨show 1 < 6 by decide, _, rfl, .vars ⟨.loc 2 _ _ (show 2 < 6 by decide), .d _, .d _, .d _, trivial⟩⟩, ⟨show 2 < 6 by decide, _, rfl, .lst _ _ _⟩, ⟨show 3 < 6 by decide, _, rfl, .vars ⟨.loc 4 _ _ (show 4 < 6 by decide), .d _, .d _, .d _, trivial⟩⟩, ⟨show 4 < 6 by decide, _, rfl, .lst _ _ _⟩, ⟨show 5 < 6 by decide, _, rfl, .vars ⟨.d _, .d _, .d _, .d _, .d _, .d _, trivial⟩⟩, trivial⟩)
            exact And.intro rfl rfl
          · replace h := iteF hc51 h
            refine NWp.condF (t := (x50.What == 0)) rfl hc51 ?_
            obtain ⟨r54, hr54, h⟩ := bindE h
            refine NWp.opsJ ⟨tab [(3, .d (.cptr (some 2) (eA2 (D.int .i64) a0) 0)), (7, .ptr 0 0 0), (8, .ptr 5 0 0), (9, .d (.int .i64 1)), (28, .d (eL none (eL (some 4) elaw16_Act) ([a1, a2] : List (List law16_Act)))), (29, .d (.int .i64 2)), (30, .d (.int .i64 1)), (47, .d (eL (some 4) elaw16_Act x36)), (48, .d (.int .i64 (x36.length : Int))), (49, .d (.int .i64 i43))], stab [(0, .var [.ptr 1 0 0, .ptr 3 0 0]), (1, .var [.loc 2 0 z31.length, .d (.int .i64 z32), .d (.int .i64 z33), .d (.int .i64 z34)]), (2, .lst true (some 3) (List.map eapi_Item z31)), (3, .var [.loc 4 0 r54.2.2.ring.length, .d (.int .i64 r54.2.2.first), .d (.int .i64 r54.2.2.n_), .d (.int .i64 r54.2.2.lost)]), (4, .lst true (some 3) (List.map eapi_Item r54.2.2.ring)), (5, .var [.d (.int .i64 y44.a0.Places), .d (eL (some 3) eapi_Item y44.a0.L), .d (.int .i64 y44.a0.Lost), .d (.int .i64 y44.a1.Places), .d (eL (some 3) eapi_Item y44.a1.L), .d (.int .i64 y44.a1.Lost)])], 6⟩ ?_ ?_
            · refine step (v := .d (.int .i64 1)) rfl ?_
              refine step (v := .ptr 0 0 1) rfl ?_
              refine step (v := .ptr 3 0 0) rfl ?_
              refine stepW (v := .d (.tup [eapi_Item r54.1, .bool r54.2.1])) (σ' := (upd (upd (upd (upd (stab [(0, .var [.ptr 1 0 0, .ptr 3 0 0]), (1, .var [.loc 2 0 z31.length, .d (.int .i64 z32), .d (.int .i64 z33), .d (.int .i64 z34)]), (2, .lst true (some 3) (List.map eapi_Item z31)), (3, .var [.loc 4 0 l39.length, .d (.int .i64 i40), .d (.int .i64 i41), .d (.int .i64 i42)]), (4, .lst true (some 3) (List.map eapi_Item l39)), (5, .var [.d (.int .i64 y44.a0.Places), .d (eL (some 3) eapi_Item y44.a0.L), .d (.int .i64 y44.a0.Lost), .d (.int .i64 y44.a1.Places), .d (eL (some 3) eapi_Item y44.a1.L), .d (.int .i64 y44.a1.Lost)]), (6, .var [.d (.int .i64 x50.What), .d (.int .u16 x50.X.Pt), .d (.str x50.X.Raw), .d (.int .i64 x50.X.N)])]) 4 none) 3 none) 4 (some (.lst true (some 3) (List.map eapi_Item r54.2.2.ring)))) 3 (some (.var [.loc 4 0 r54.2.2.ring.length, .d (.int .i64 r54.2.2.first), .d (.int .i64 r54.2.2.n_), .d (.int .i64 r54.2.2.lost)])))) (n' := 8) (SCall.lift [3, 4] (c_queue_Queue_Pop hr54) (show 2 ≤ 3 by decide) (by decide) (show ∀ i ∈ [3, 4], i < 7 by decide) (dom_c (show 0 < 3 by decide) (dom_c (show 1 < 3 by decide) dom_n)) (VNs.c (.ptr 0 _ _ (show 0 < 2 by decide)) VNs.nil0) (SN.c (show 0 < 2 by decide) rfl (.vars (VNs.c (.loc 1 _ _ (show 1 < 2 by decide)) (VNs.c (.d _) (VNs.c (.d _) (VNs.c (.d _) VNs.nil0))))) (SN.c (show 1 < 2 by decide) rfl (.lst _ _ _) SN.nil0))) (show 7 ≤ 8 by decide) ?_
              exact RunOps.nil' (Norm.mk [0, 1, 2, 3, 4, 5] (by decide) (by decide) (by decide) ⟨.d _, .ptr 0 _ _ (show 0 < 6 by decide), .ptr 5 _ _ (show 5 < 6 by decide), .d _, .d _, .d _, .d _, .d _, .d _, .d _, trivial⟩ ⟨⟨show 0 < 6 by decide, _, rfl, .vars ⟨.ptr 1 _ _ (show 1 < 6 by decide), .ptr 3 _ _ (show 3 < 6 by decide), trivial⟩⟩, ⟨show 1 < 6 by decide, _, rfl, .vars ⟨.loc 2 _ _ (show 2 < 6 by decide), .d _, .d _, .d _, trivial⟩⟩, ⟨show 2 < 6 by decide, _, rfl, .lst _ _ _⟩, ⟨show 3 < 6 by decide, _, rfl, .vars ⟨.loc 4 _ _ (show 4 < 6 by decide), .d _, .d _, .d _, trivial⟩⟩, ⟨show 4 < 6 by decide, _, rfl, .lst _ _ _⟩, ⟨show 5 < 6 by decide, _, rfl, .vars ⟨.d _, .d _, .d _, .d _, .d _, .d _, trivial⟩⟩, trivial⟩)
            obtain ⟨r55, hr55, h⟩ := bindE h
            have hh := Option.some.inj h
            obtain ⟨he0, ht0⟩ := Prod.mk.inj hh
            obtain ⟨he1, ht1⟩ := Prod.mk.inj ht0
            obtain ⟨he2, ht2⟩ := Prod.mk.inj ht1
            obtain ⟨he3, ht3⟩ := Prod.mk.inj ht2
            subst he0
            subst he1
            subst he2
            subst he3
            subst ht3
            refine NWp.opsE ⟨tab [(3, .d (.cptr (some 2) (eA2 (D.int .i64) a0) 0)), (7, .ptr 0 0 0), (8, .ptr 5 0 0), (9, .d (.int .i64 1)), (28, .d (eL none (eL (some 4) elaw16_Act) ([a1, a2] : List (List law16_Act)))), (29, .d (.int .i64 2)), (30, .d (.int .i64 1)), (47, .d (eL (some 4) elaw16_Act x36)), (48, .d (.int .i64 (x36.length : Int))), (49, .d (.int .i64 i43))], stab [(0, .var [.ptr 1 0 0, .ptr 3 0 0]), (1, .var [.loc 2 0 z31.length, .d (.int .i64 z32), .d (.int .i64 z33), .d (.int .i64 z34)]), (2, .lst true (some 3) (List.map eapi_Item z31)), (3, .var [.loc 4 0 r54.2.2.ring.length, .d (.int .i64 r54.2.2.first), .d (.int .i64 r54.2.2.n_), .d (.int .i64 r54.2.2.lost)]), (4, .lst true (some 3) (List.map eapi_Item r54.2.2.ring)), (5, .var [.d (.int .i64 ((A2.mk y44.a0 r55.1).a0.Places)), .d (eL (some 3) eapi_Item ((A2.mk y44.a0 r55.1).a0.L)), .d (.int .i64 ((A2.mk y44.a0 r55.1).a0.Lost)), .d (.int .i64 ((A2.mk y44.a0 r55.1).a1.Places)), .d (eL (some 3) eapi_Item ((A2.mk y44.a0 r55.1).a1.L)), .d (.int .i64 ((A2.mk y44.a0 r55.1).a1.Lost))])], 6⟩ ?_ ?_
            · refine step (v := .d (.int .i64 1)) rfl ?_
              refine step (v := .d (.int .i64 1)) rfl ?_
              refine step (v := .ptr 5 0 3) rfl ?_
              refine step (v := .d (eref16_Queue y44.a1)) (st_ldV (ds := [.int .i64 y44.a1.Places, eL (some 3) eapi_Item y44.a1.L, .int .i64 y44.a1.Lost]) rfl rfl (show 6 ≤ 6 by decide) rfl) ?_
              refine stepC (r := .tup [eref16_Queue r55.1, eapi_Item r55.2.1, .bool r55.2.2]) (ArgsOk.dt ArgsOk.nil') (c_ref16_Queue_Pop hr55) ?_
              refine step (v := .d (.tup [eref16_Queue r55.1, eapi_Item r55.2.1, .bool r55.2.2])) rfl ?_
              refine step (v := .d (eref16_Queue r55.1)) rfl ?_
              refine step (v := .d (eapi_Item r55.2.1)) rfl ?_
              refine step (v := .d (.bool r55.2.2)) rfl ?_
              refine step (v := .ptr 5 0 3) rfl ?_
              refine step (v := V.undef) (σ' := (upd (stab [(0, .var [.ptr 1 0 0, .ptr 3 0 0]), (1, .var [.loc 2 0 z31.length, .d (.int .i64 z32), .d (.int .i64 z33), .d (.int .i64 z34)]), (2, .lst true (some 3) (List.map eapi_Item z31)), (3, .var [.loc 4 0 r54.2.2.ring.length, .d (.int .i64 r54.2.2.first), .d (.int .i64 r54.2.2.n_), .d (.int .i64 r54.2.2.lost)]), (4, .lst true (some 3) (List.map eapi_Item r54.2.2.ring)), (5, .var [.d (.int .i64 y44.a0.Places), .d (eL (some 3) eapi_Item y44.a0.L), .d (.int .i64 y44.a0.Lost), .d (.int .i64 y44.a1.Places), .d (eL (some 3) eapi_Item y44.a1.L), .d (.int .i64 y44.a1.Lost)])]) 5 (some (.var [.d (.int .i64 y44.a0.Places), .d (eL (some 3) eapi_Item y44.a0.L), .d (.int .i64 y44.a0.Lost), .d (.int .i64 r55.1.Places), .d (eL (some 3) eapi_Item r55.1.L), .d (.int .i64 r55.1.Lost)])))) (n' := 6) rfl ?_
              exact RunOps.nil' (Norm.mk [0, 1, 2, 3, 4, 5] (by decide) (by decide) (by decide) ⟨.d _, .ptr 0 _ _ (show 0 < 6 by decide), .ptr 5 _ _ (show 5 < 6 by decide), .d _, .d _, .d _, .d _, .d _, .d _, .d _, trivial⟩ ⟨⟨show 0 < 6 by decide, _, rfl, .vars ⟨.ptr 1 _ _ (show 1 < 6 by decide), .ptr 3 _ _ (show 3 < 6 by decide), trivial⟩⟩, ⟨show 1 < 6 by decide, _, rfl, .vars ⟨.loc 2 _ _ (show 2 < 6 by decide), .d _, .d _, .d _, trivial⟩⟩, ⟨show 2 < 6 by decide, _, rfl, .lst _ _ _⟩, ⟨show 3 < 6 by decide, _, rfl, .vars ⟨.loc 4 _ _ (show 4 < 6 by decide), .d _, .d _, .d _, trivial⟩⟩, ⟨show 4 < 6 by decide, _, rfl, .lst _ _ _⟩, ⟨show 5 < 6 by decide, _, rfl, .vars ⟨.d _, .d _, .d _, .d _, .d _, .d _, trivial⟩⟩, trivial⟩)
            exact And.intro rfl rfl
        have hh := Option.some.inj h
        subst hh
        refine NWp.opsE ⟨tab [(3, .d (.cptr (some 2) (eA2 (D.int .i64) a0) 0)), (7, .ptr 0 0 0), (8, .ptr 5 0 0), (9, .d (.int .i64 1)), (28, .d (eL none (eL (some 4) elaw16_Act) ([a1, a2] : List (List law16_Act)))), (29, .d (.int .i64 2)), (30, .d (.int .i64 1)), (47, .d (eL (some 4) elaw16_Act x36)), (48, .d (.int .i64 (x36.length : Int))), (49, .d (.int .i64 (i43 + 1)))], stab [(0, .var [.ptr 1 0 0, .ptr 3 0 0]), (1, .var [.loc 2 0 z31.length, .d (.int .i64 z32), .d (.int .i64 z33), .d (.int .i64 z34)]), (2, .lst true (some 3) (List.map eapi_Item z31)), (3, .var [.loc 4 0 l56.length, .d (.int .i64 y57), .d (.int .i64 y58), .d (.int .i64 y59)]), (4, .lst true (some 3) (List.map eapi_Item l56)), (5, .var [.d (.int .i64 y60.a0.Places), .d (eL (some 3) eapi_Item y60.a0.L), .d (.int .i64 y60.a0.Lost), .d (.int .i64 y60.a1.Places), .d (eL (some 3) eapi_Item y60.a1.L), .d (.int .i64 y60.a1.Lost)])], 6⟩ ?_ ?_
        · refine step (v := .d (.int .i64 (i43 + 1))) (st_inc (inc_ok hinv47 hgo46 hB45) rfl rfl) ?_
          refine step (v := .d (.int .i64 (i43 + 1))) rfl ?_
          exact RunOps.nil' (Norm.mk [0, 1, 2, 3, 4, 5] (by decide) (by decide) (by decide) ⟨.d _, .ptr 0 _ _ (show 0 < 6 by decide), .ptr 5 _ _ (show 5 < 6 by decide), .d _, .d _, .d _, .d _, .d _, .d _, .d _, trivial⟩ ⟨⟨show 0 < 6 by decide, _, rfl, .vars ⟨.ptr 1 _ _ (show 1 < 6 by decide), .ptr 3 _ _ (show 3 < 6 by decide), trivial⟩⟩, ⟨show 1 < 6 by decide, _, rfl, .vars ⟨.loc 2 _ _ (show 2 < 6 by decide), .d _, .d _, .d _, trivial⟩⟩, ⟨show 2 < 6 by decide, _, rfl, .lst _ _ _⟩, ⟨show 3 < 6 by decide, _, rfl, .vars ⟨.loc 4 _ _ (show 4 < 6 by decide), .d _, .d _, .d _, trivial⟩⟩, ⟨show 4 < 6 by decide, _, rfl, .lst _ _ _⟩, ⟨show 5 < 6 by decide, _, rfl, .vars ⟨.d _, .d _, .d _, .d _, .d _, .d _, trivial⟩⟩, trivial⟩)
        exact And.intro rfl rfl
      · rintro i43 ⟨l39, i40, i41, i42, y44⟩ hinv47 hgo46
        show NWp _ _ _ _ _ ⟨tab [(3, .d (.cptr (some 2) (eA2 (D.int .i64) a0) 0)), (7, .ptr 0 0 0), (8, .ptr 5 0 0), (9, .d (.int .i64 1)), (28, .d (eL none (eL (some 4) elaw16_Act) ([a1, a2] : List (List law16_Act)))), (29, .d (.int .i64 2)), (30, .d (.int .i64 1)), (47, .d (eL (some 4) elaw16_Act x36)), (48, .d (.int .i64 (x36.length : Int))), (49, .d (.int .i64 i43))], stab [(0, .var [.ptr 1 0 0, .ptr 3 0 0]), (1, .var [.loc 2 0 z31.length, .d (.int .i64 z32), .d (.int .i64 z33), .d (.int .i64 z34)]), (2, .lst true (some 3) (List.map eapi_Item z31)), (3, .var [.loc 4 0 l39.length, .d (.int .i64 i40), .d (.int .i64 i41), .d (.int .i64 i42)]), (4, .lst true (some 3) (List.map eapi_Item l39)), (5, .var [.d (.int .i64 y44.a0.Places), .d (eL (some 3) eapi_Item y44.a0.L), .d (.int .i64 y44.a0.Lost), .d (.int .i64 y44.a1.Places), .d (eL (some 3) eapi_Item y44.a1.L), .d (.int .i64 y44.a1.Lost)])], 6⟩
        have hc48 : ¬ (decide (i43 < (x36.length : Int)) = true) := fun hq => hgo46 (of_decide_eq_true hq)
        refine NWp.opsJ ⟨tab [(3, .d (.cptr (some 2) (eA2 (D.int .i64) a0) 0)), (7, .ptr 0 0 0), (8, .ptr 5 0 0), (9, .d (.int .i64 1)), (28, .d (eL none (eL (some 4) elaw16_Act) ([a1, a2] : List (List law16_Act)))), (29, .d (.int .i64 2)), (30, .d (.int .i64 1)), (47, .d (eL (some 4) elaw16_Act x36)), (48, .d (.int .i64 (x36.length : Int))), (49, .d (.int .i64 i43)), (50, .d (.bool (decide (i43 < (x36.length : Int)))))], stab [(0, .var [.ptr 1 0 0, .ptr 3 0 0]), (1, .var [.loc 2 0 z31.length, .d (.int .i64 z32), .d (.int .i64 z33), .d (.int .i64 z34)]), (2, .lst true (some 3) (List.map eapi_Item z31)), (3, .var [.loc 4 0 l39.length, .d (.int .i64 i40), .d (.int .i64 i41), .d (.int .i64 i42)]), (4, .lst true (some 3) (List.map eapi_Item l39)), (5, .var [.d (.int .i64 y44.a0.Places), .d (eL (some 3) eapi_Item y44.a0.L), .d (.int .i64 y44.a0.Lost), .d (.int .i64 y44.a1.Places), .d (eL (some 3) eapi_Item y44.a1.L), .d (.int .i64 y44.a1.Lost)])], 6⟩ ?_ ?_
        · refine step (v := .d (.bool (decide (i43 < (x36.length : Int))))) rfl ?_
          exact RunOps.nil' (Norm.mk [0, 1, 2, 3, 4, 5] (by decide) (by decide) (by decide) ⟨.d _, .ptr 0 _ _ (show 0 < 6 by decide), .ptr 5 _ _ (show 5 < 6 by decide), .d _, .d _, .d _, .d _, .d _, .d _, .d _, .d _, trivial⟩ ⟨⟨show 0 < 6 by decide, _, rfl, .vars ⟨.ptr 1 _ _ (show 1 < 6 by decide), .ptr 3 _ _ (show 3 < 6 by decide), trivial⟩⟩, ⟨show 1 < 6 by decide, _, rfl, .vars ⟨.loc 2 _ _ (show 2 < 6 by decide), .d _, .d _, .d _, trivial⟩⟩, ⟨show 2 < 6 by decide, _, rfl, .lst _ _ _⟩, ⟨show 3 < 6 by decide, _, rfl, .vars ⟨.loc 4 _ _ (show 4 < 6 by decide), .d _, .d _, .d _, trivial⟩⟩, ⟨show 4 < 6 by decide, _, rfl, .lst _ _ _⟩, ⟨show 5 < 6 by decide, _, rfl, .vars ⟨.d _, .d _, .d _, .d _, .d _, .d _, trivial⟩⟩, trivial⟩)
        refine NWp.seq ?_
        refine NWp.condF (t := decide (i43 < (x36.length : Int))) rfl hc48 ?_
        refine NWp.norm (s0 := ⟨tab [(3, .d (.cptr (some 2) (eA2 (D.int .i64) a0) 0)), (7, .ptr 0 0 0), (8, .ptr 5 0 0), (28, .d (eL none (eL (some 4) elaw16_Act) ([a1, a2] : List (List law16_Act)))), (29, .d (.int .i64 2)), (30, .d (.int .i64 1))], stab [(0, .var [.ptr 1 0 0, .ptr 3 0 0]), (1, .var [.loc 2 0 z31.length, .d (.int .i64 z32), .d (.int .i64 z33), .d (.int .i64 z34)]), (2, .lst true (some 3) (List.map eapi_Item z31)), (3, .var [.loc 4 0 l39.length, .d (.int .i64 i40), .d (.int .i64 i41), .d (.int .i64 i42)]), (4, .lst true (some 3) (List.map eapi_Item l39)), (5, .var [.d (.int .i64 y44.a0.Places), .d (eL (some 3) eapi_Item y44.a0.L), .d (.int .i64 y44.a0.Lost), .d (.int .i64 y44.a1.Places), .d (eL (some 3) eapi_Item y44.a1.L), .d (.int .i64 y44.a1.Lost)])], 6⟩) (Norm.mk [0, 1, 2, 3, 4, 5] (by decide) (by decide) (by decide) ⟨.d _, .ptr 0 _ _ (show 0 < 6 by decide), .ptr 5 _ _ (show 5 < 6 by decide), .d _, .d _, .d _, trivial⟩ ⟨⟨show 0 < 6 by decide, _, rfl, .vars ⟨.ptr 1 _ _ (show 1 < 6 by decide), .ptr 3 _ _ (show 3 < 6 by decide), trivial⟩⟩, ⟨show 1 < 6 by decide, _, rfl, .vars ⟨.loc 2 _ _ (show 2 < 6 by decide), .d _, .d _, .d _, trivial⟩⟩, ⟨show 2 < 6 by decide, _, rfl, .lst _ _ _⟩, ⟨show 3 < 6 by decide, _, rfl, .vars ⟨.loc 4 _ _ (show 4 < 6 by decide), .d _, .d _, .d _, trivial⟩⟩, ⟨show 4 < 6 by decide, _, rfl, .lst _ _ _⟩, ⟨show 5 < 6 by decide, _, rfl, .vars ⟨.d _, .d _, .d _, .d _, .d _, .d _, trivial⟩⟩, trivial⟩) ?_
        refine NWp.exit ?_
        exact And.intro rfl rfl
      refine NWp.opsE ⟨tab [(3, .d (.cptr (some 2) (eA2 (D.int .i64) a0) 0)), (7, .ptr 0 0 0), (8, .ptr 5 0 0), (28, .d (eL none (eL (some 4) elaw16_Act) ([a1, a2] : List (List law16_Act)))), (29, .d (.int .i64 2)), (30, .d (.int .i64 2))], stab [(0, .var [.ptr 1 0 0, .ptr 3 0 0]), (1, .var [.loc 2 0 z31.length, .d (.int .i64 z32), .d (.int .i64 z33), .d (.int .i64 z34)]), (2, .lst true (some 3) (List.map eapi_Item z31)), (3, .var [.loc 4 0 z62.length, .d (.int .i64 z63), .d (.int .i64 z64), .d (.int .i64 z65)]), (4, .lst true (some 3) (List.map eapi_Item z62)), (5, .var [.d (.int .i64 z66.a0.Places), .d (eL (some 3) eapi_Item z66.a0.L), .d (.int .i64 z66.a0.Lost), .d (.int .i64 z66.a1.Places), .d (eL (some 3) eapi_Item z66.a1.L), .d (.int .i64 z66.a1.Lost)])], 6⟩ ?_ ?_
      · refine step (v := .d (.int .i64 2)) rfl ?_
        refine step (v := .d (.int .i64 2)) rfl ?_
        exact RunOps.nil' (Norm.mk [0, 1, 2, 3, 4, 5] (by decide) (by decide) (by decide) ⟨.d _, .ptr 0 _ _ (show 0 < 6 by decide), .ptr 5 _ _ (show 5 < 6 by decide), .d _, .d _, .d _, trivial⟩ ⟨⟨show 0 < 6 by decide, _, rfl, .vars ⟨.ptr 1 _ _ (show 1 < 6 by decide), .ptr 3 _ _ (show 3 < 6 by decide), trivial⟩⟩, ⟨show 1 < 6 by decide, _, rfl, .vars ⟨.loc 2 _ _ (show 2 < 6 by decide), .d _, .d _, .d _, trivial⟩⟩, ⟨show 2 < 6 by decide, _, rfl, .lst _ _ _⟩, ⟨show 3 < 6 by decide, _, rfl, .vars ⟨.loc 4 _ _ (show 4 < 6 by decide), .d _, .d _, .d _, trivial⟩⟩, ⟨show 4 < 6 by decide, _, rfl, .lst _ _ _⟩, ⟨show 5 < 6 by decide, _, rfl, .vars ⟨.d _, .d _, .d _, .d _, .d _, .d _, trivial⟩⟩, trivial⟩)
      refine NWp.loop ?_
      refine NWp.opsJ ⟨tab [(3, .d (.cptr (some 2) (eA2 (D.int .i64) a0) 0)), (7, .ptr 0 0 0), (8, .ptr 5 0 0), (28, .d (eL none (eL (some 4) elaw16_Act) ([a1, a2] : List (List law16_Act)))), (29, .d (.int .i64 2)), (30, .d (.int .i64 2)), (31, .d (.bool false))], stab [(0, .var [.ptr 1 0 0, .ptr 3 0 0]), (1, .var [.loc 2 0 z31.length, .d (.int .i64 z32), .d (.int .i64 z33), .d (.int .i64 z34)]), (2, .lst true (some 3) (List.map eapi_Item z31)), (3, .var [.loc 4 0 z62.length, .d (.int .i64 z63), .d (.int .i64 z64), .d (.int .i64 z65)]), (4, .lst true (some 3) (List.map eapi_Item z62)), (5, .var [.d (.int .i64 z66.a0.Places), .d (eL (some 3) eapi_Item z66.a0.L), .d (.int .i64 z66.a0.Lost), .d (.int .i64 z66.a1.Places), .d (eL (some 3) eapi_Item z66.a1.L), .d (.int .i64 z66.a1.Lost)])], 6⟩ ?_ ?_
      · refine step (v := .d (.bool false)) rfl ?_
        exact RunOps.nil' (Norm.mk [0, 1, 2, 3, 4, 5] (by decide) (by decide) (by decide) ⟨.d _, .ptr 0 _ _ (show 0 < 6 by decide), .ptr 5 _ _ (show 5 < 6 by decide), .d _, .d _, .d _, .d _, trivial⟩ ⟨⟨show 0 < 6 by decide, _, rfl, .vars ⟨.ptr 1 _ _ (show 1 < 6 by decide), .ptr 3 _ _ (show 3 < 6 by decide), trivial⟩⟩, ⟨show 1 < 6 by decide, _, rfl, .vars ⟨.loc 2 _ _ (show 2 < 6 by decide), .d _, .d _, .d _, trivial⟩⟩, ⟨show 2 < 6 by decide, _, rfl, .lst _ _ _⟩, ⟨show 3 < 6 by decide, _, rfl, .vars ⟨.loc 4 _ _ (show 4 < 6 by decide), .d _, .d _, .d _, trivial⟩⟩, ⟨show 4 < 6 by decide, _, rfl, .lst _ _ _⟩, ⟨show 5 < 6 by decide, _, rfl, .vars ⟨.d _, .d _, .d _, .d _, .d _, .d _, trivial⟩⟩, trivial⟩)
      refine NWp.seq ?_
      refine NWp.condF (t := false) rfl (by decide) ?_
      refine NWp.exit ?_
      refine NWp.opsJ ⟨tab [(7, .ptr 0 0 0), (8, .ptr 5 0 0), (13, .d (.bool (((z66.a0.L.length : Int) == (z66.a1.L.length : Int)) && (z66.a0.Lost == z66.a1.Lost))))], stab [(0, .var [.ptr 1 0 0, .ptr 3 0 0]), (1, .var [.loc 2 0 z31.length, .d (.int .i64 z32), .d (.int .i64 z33), .d (.int .i64 z34)]), (2, .lst true (some 3) (List.map eapi_Item z31)), (3, .var [.loc 4 0 z62.length, .d (.int .i64 z63), .d (.int .i64 z64), .d (.int .i64 z65)]), (4, .lst true (some 3) (List.map eapi_Item z62)), (5, .var [.d (.int .i64 z66.a0.Places), .d (eL (some 3) eapi_Item z66.a0.L), .d (.int .i64 z66.a0.Lost), .d (.int .i64 z66.a1.Places), .d (eL (some 3) eapi_Item z66.a1.L), .d (.int .i64 z66.a1.Lost)])], 6⟩ ?_ ?_
      · refine step (v := .ptr 5 0 0) rfl ?_
        refine step (v := .ptr 5 0 1) rfl ?_
        refine step (v := .d (eL (some 3) eapi_Item z66.a0.L)) rfl ?_
        refine step (v := .d (.int .i64 (z66.a0.L.length : Int))) (st_len (xs := z66.a0.L) (e := eapi_Item) rfl) ?_
        refine step (v := .ptr 5 0 3) rfl ?_
        refine step (v := .ptr 5 0 4) rfl ?_
        refine step (v := .d (eL (some 3) eapi_Item z66.a1.L)) rfl ?_
        refine step (v := .d (.int .i64 (z66.a1.L.length : Int))) (st_len (xs := z66.a1.L) (e := eapi_Item) rfl) ?_
        refine step (v := .d (.bool ((z66.a0.L.length : Int) == (z66.a1.L.length : Int)))) rfl ?_
        refine step (v := .d (.bool ((z66.a0.L.length : Int) == (z66.a1.L.length : Int)))) rfl ?_
        by_cases hg67 : ((z66.a0.L.length : Int) == (z66.a1.L.length : Int)) = true
        · refine stepG (c := ((z66.a0.L.length : Int) == (z66.a1.L.length : Int))) rfl hg67 ?_
          refine step (v := .ptr 5 0 0) rfl ?_
          refine stepG (c := ((z66.a0.L.length : Int) == (z66.a1.L.length : Int))) rfl hg67 ?_
          refine step (v := .ptr 5 0 2) rfl ?_
          refine stepG (c := ((z66.a0.L.length : Int) == (z66.a1.L.length : Int))) rfl hg67 ?_
          refine step (v := .d (.int .i64 z66.a0.Lost)) rfl ?_
          refine stepG (c := ((z66.a0.L.length : Int) == (z66.a1.L.length : Int))) rfl hg67 ?_
          refine step (v := .ptr 5 0 3) rfl ?_
          refine stepG (c := ((z66.a0.L.length : Int) == (z66.a1.L.length : Int))) rfl hg67 ?_
          refine step (v := .ptr 5 0 5) rfl ?_
          refine stepG (c := ((z66.a0.L.length : Int) == (z66.a1.L.length : Int))) rfl hg67 ?_
          refine step (v := .d (.int .i64 z66.a1.Lost)) rfl ?_
          refine stepG (c := ((z66.a0.L.length : Int) == (z66.a1.L.length : Int))) rfl hg67 ?_
          refine step (v := .d (.bool (z66.a0.Lost == z66.a1.Lost))) rfl ?_
          refine step (v := .d (.bool (z66.a0.Lost == z66.a1.Lost))) (st_pickT (b := ((z66.a0.L.length : Int) == (z66.a1.L.length : Int))) rfl hg67 rfl) ?_
          refine step (v := .d (.bool (z66.a0.Lost == z66.a1.Lost))) rfl ?_
          exact RunOps.nil' (Norm.mk [0, 1, 2, 3, 4, 5] (by decide) (by decide) (by decide) ⟨.ptr 0 _ _ (show 0 < 6 by decide), .ptr 5 _ _ (show 5 < 6 by decide), .eq (by simp [hg67]), trivial⟩ ⟨⟨show 0 < 6 by decide, _, rfl, .vars ⟨.ptr 1 _ _ (show 1 < 6 by decide), .ptr 3 _ _ (show 3 < 6 by decide), trivial⟩⟩, ⟨show 1 < 6 by decide, _, rfl, .vars ⟨.loc 2 _ _ (show 2 < 6 by decide), .d _, .d _, .d _, trivial⟩⟩, ⟨show 2 < 6 by decide, _, rfl, .lst _ _ _⟩, ⟨show 3 < 6 by decide, _, rfl, .vars ⟨.loc 4 _ _ (show 4 < 6 by decide), .d _, .d _, .d _, trivial⟩⟩, ⟨show 4 < 6 by decide, _, rfl, .lst _ _ _⟩, ⟨show 5 < 6 by decide, _, rfl, .vars ⟨.d _, .d _, .d _, .d _, .d _, .d _, trivial⟩⟩, trivial⟩)
        · refine stepX (c := ((z66.a0.L.length : Int) == (z66.a1.L.length : Int))) rfl hg67 ?_
          refine stepX (c := ((z66.a0.L.length : Int) == (z66.a1.L.length : Int))) rfl hg67 ?_
          refine stepX (c := ((z66.a0.L.length : Int) == (z66.a1.L.length : Int))) rfl hg67 ?_
          refine stepX (c := ((z66.a0.L.length : Int) == (z66.a1.L.length : Int))) rfl hg67 ?_
          refine stepX (c := ((z66.a0.L.length : Int) == (z66.a1.L.length : Int))) rfl hg67 ?_
          refine stepX (c := ((z66.a0.L.length : Int) == (z66.a1.L.length : Int))) rfl hg67 ?_
          refine stepX (c := ((z66.a0.L.length : Int) == (z66.a1.L.length : Int))) rfl hg67 ?_
          refine step (v := .d (.bool false)) (st_pickF (b := ((z66.a0.L.length : Int) == (z66.a1.L.length : Int))) rfl hg67 rfl) ?_
          refine step (v := .d (.bool false)) rfl ?_
          exact RunOps.nil' (Norm.mk [0, 1, 2, 3, 4, 5] (by decide) (by decide) (by decide) ⟨.ptr 0 _ _ (show 0 < 6 by decide), .ptr 5 _ _ (show 5 < 6 by decide), .eq (by simp [hg67]), trivial⟩ ⟨⟨show 0 < 6 by decide, _, rfl, .vars ⟨.ptr 1 _ _ (show 1 < 6 by decide), .ptr 3 _ _ (show 3 < 6 by decide), trivial⟩⟩, ⟨show 1 < 6 by decide, _, rfl, .vars ⟨.loc 2 _ _ (show 2 < 6 by decide), .d _, .d _, .d _, trivial⟩⟩, ⟨show 2 < 6 by decide, _, rfl, .lst _ _ _⟩, ⟨show 3 < 6 by decide, _, rfl, .vars ⟨.loc 4 _ _ (show 4 < 6 by decide), .d _, .d _, .d _, trivial⟩⟩, ⟨show 4 < 6 by decide, _, rfl, .lst _ _ _⟩, ⟨show 5 < 6 by decide, _, rfl, .vars ⟨.d _, .d _, .d _, .d _, .d _, .d _, trivial⟩⟩, trivial⟩)
      refine NWp.seq ?_
      refine NWp.opsJ ⟨tab [(7, .ptr 0 0 0), (8, .ptr 5 0 0), (13, .d (.bool (((z66.a0.L.length : Int) == (z66.a1.L.length : Int)) && (z66.a0.Lost == z66.a1.Lost)))), (14, .d (.int .i64 0))], stab [(0, .var [.ptr 1 0 0, .ptr 3 0 0]), (1, .var [.loc 2 0 z31.length, .d (.int .i64 z32), .d (.int .i64 z33), .d (.int .i64 z34)]), (2, .lst true (some 3) (List.map eapi_Item z31)), (3, .var [.loc 4 0 z62.length, .d (.int .i64 z63), .d (.int .i64 z64), .d (.int .i64 z65)]), (4, .lst true (some 3) (List.map eapi_Item z62)), (5, .var [.d (.int .i64 z66.a0.Places), .d (eL (some 3) eapi_Item z66.a0.L), .d (.int .i64 z66.a0.Lost), .d (.int .i64 z66.a1.Places), .d (eL (some 3) eapi_Item z66.a1.L), .d (.int .i64 z66.a1.Lost)])], 6⟩ ?_ ?_
      · refine step (v := .d (.int .i64 0)) rfl ?_
        exact RunOps.nil' (Norm.mk [0, 1, 2, 3, 4, 5] (by decide) (by decide) (by decide) ⟨.ptr 0 _ _ (show 0 < 6 by decide), .ptr 5 _ _ (show 5 < 6 by decide), .d _, .d _, trivial⟩ ⟨⟨show 0 < 6 by decide, _, rfl, .vars ⟨.ptr 1 _ _ (show 1 < 6 by decide), .ptr 3 _ _ (show 3 < 6 by decide), trivial⟩⟩, ⟨show 1 < 6 by decide, _, rfl, .vars ⟨.loc 2 _ _ (show 2 < 6 by decide), .d _, .d _, .d _, trivial⟩⟩, ⟨show 2 < 6 by decide, _, rfl, .lst _ _ _⟩, ⟨show 3 < 6 by decide, _, rfl, .vars ⟨.loc 4 _ _ (show 4 < 6 by decide), .d _, .d _, .d _, trivial⟩⟩, ⟨show 4 < 6 by decide, _, rfl, .lst _ _ _⟩, ⟨show 5 < 6 by decide, _, rfl, .vars ⟨.d _, .d _, .d _, .d _, .d _, .d _, trivial⟩⟩, trivial⟩)
      obtain ⟨q87, hl, h⟩ := bindE h
      obtain ⟨z75, z76⟩ := q87
      refine NWp.block ?_
      refine loop_whK (fun (qq : (Bool × Int)) => ⟨tab [(7, .ptr 0 0 0), (8, .ptr 5 0 0), (13, .d (.bool qq.1)), (14, .d (.int .i64 qq.2))], stab [(0, .var [.ptr 1 0 0, .ptr 3 0 0]), (1, .var [.loc 2 0 z31.length, .d (.int .i64 z32), .d (.int .i64 z33), .d (.int .i64 z34)]), (2, .lst true (some 3) (List.map eapi_Item z31)), (3, .var [.loc 4 0 z62.length, .d (.int .i64 z63), .d (.int .i64 z64), .d (.int .i64 z65)]), (4, .lst true (some 3) (List.map eapi_Item z62)), (5, .var [.d (.int .i64 z66.a0.Places), .d (eL (some 3) eapi_Item z66.a0.L), .d (.int .i64 z66.a0.Lost), .d (.int .i64 z66.a1.Places), .d (eL (some 3) eapi_Item z66.a1.L), .d (.int .i64 z66.a1.Lost)])], 6⟩) 4 (fun (qq : (Bool × Int)) => ⟨tab [(7, .ptr 0 0 0), (8, .ptr 5 0 0), (13, .d (.bool qq.1))], stab [(0, .var [.ptr 1 0 0, .ptr 3 0 0]), (1, .var [.loc 2 0 z31.length, .d (.int .i64 z32), .d (.int .i64 z33), .d (.int .i64 z34)]), (2, .lst true (some 3) (List.map eapi_Item z31)), (3, .var [.loc 4 0 z62.length, .d (.int .i64 z63), .d (.int .i64 z64), .d (.int .i64 z65)]), (4, .lst true (some 3) (List.map eapi_Item z62)), (5, .var [.d (.int .i64 z66.a0.Places), .d (eL (some 3) eapi_Item z66.a0.L), .d (.int .i64 z66.a0.Lost), .d (.int .i64 z66.a1.Places), .d (eL (some 3) eapi_Item z66.a1.L), .d (.int .i64 z66.a1.Lost)])], 6⟩) hl ?_ ?_
      · rintro ⟨y68, i69⟩ xr70 h
        show NWp _ _ _ _ _ ⟨tab [(7, .ptr 0 0 0), (8, .ptr 5 0 0), (13, .d (.bool y68)), (14, .d (.int .i64 i69))], stab [(0, .var [.ptr 1 0 0, .ptr 3 0 0]), (1, .var [.loc 2 0 z31.length, .d (.int .i64 z32), .d (.int .i64 z33), .d (.int .i64 z34)]), (2, .lst true (some 3) (List.map eapi_Item z31)), (3, .var [.loc 4 0 z62.length, .d (.int .i64 z63), .d (.int .i64 z64), .d (.int .i64 z65)]), (4, .lst true (some 3) (List.map eapi_Item z62)), (5, .var [.d (.int .i64 z66.a0.Places), .d (eL (some 3) eapi_Item z66.a0.L), .d (.int .i64 z66.a0.Lost), .d (.int .i64 z66.a1.Places), .d (eL (some 3) eapi_Item z66.a1.L), .d (.int .i64 z66.a1.Lost)])], 6⟩
        refine NWp.seq ?_
        refine NWp.opsJ ⟨tab [(7, .ptr 0 0 0), (8, .ptr 5 0 0), (13, .d (.bool y68)), (14, .d (.int .i64 i69)), (115, .d (.bool (y68 && (decide (i69 < (z66.a0.L.length : Int))))))], stab [(0, .var [.ptr 1 0 0, .ptr 3 0 0]), (1, .var [.loc 2 0 z31.length, .d (.int .i64 z32), .d (.int .i64 z33), .d (.int .i64 z34)]), (2, .lst true (some 3) (List.map eapi_Item z31)), (3, .var [.loc 4 0 z62.length, .d (.int .i64 z63), .d (.int .i64 z64), .d (.int .i64 z65)]), (4, .lst true (some 3) (List.map eapi_Item z62)), (5, .var [.d (.int .i64 z66.a0.Places), .d (eL (some 3) eapi_Item z66.a0.L), .d (.int .i64 z66.a0.Lost), .d (.int .i64 z66.a1.Places), .d (eL (some 3) eapi_Item z66.a1.L), .d (.int .i64 z66.a1.Lost)])], 6⟩ ?_ ?_
        · refine step (v := .d (.bool y68)) rfl ?_
          refine step (v := .d (.bool y68)) rfl ?_
          by_cases hg71 : y68 = true
          · refine stepG (c := y68) rfl hg71 ?_
            refine step (v := .d (.int .i64 i69)) rfl ?_
            refine stepG (c := y68) rfl hg71 ?_
            refine step (v := .ptr 5 0 0) rfl ?_
            refine stepG (c := y68) rfl hg71 ?_
            refine step (v := .ptr 5 0 1) rfl ?_
            refine stepG (c := y68) rfl hg71 ?_
            refine step (v := .d (eL (some 3) eapi_Item z66.a0.L)) rfl ?_
            refine stepG (c := y68) rfl hg71 ?_
            refine step (v := .d (.int .i64 (z66.a0.L.length : Int))) (st_len (xs := z66.a0.L) (e := eapi_Item) rfl) ?_
            refine stepG (c := y68) rfl hg71 ?_
            refine step (v := .d (.bool (decide (i69 < (z66.a0.L.length : Int))))) rfl ?_
            refine step (v := .d (.bool (decide (i69 < (z66.a0.L.length : Int))))) (st_pickT (b := y68) rfl hg71 rfl) ?_
            exact RunOps.nil' (Norm.mk [0, 1, 2, 3, 4, 5] (by decide) (by decide) (by decide) ⟨.ptr 0 _ _ (show 0 < 6 by decide), .ptr 5 _ _ (show 5 < 6 by decide), .d _, .d _, .eq (by simp [hg71]), trivial⟩ ⟨⟨show 0 < 6 by decide, _, rfl, .vars ⟨.ptr 1 _ _ (show 1 < 6 by decide), .ptr 3 _ _ (show 3 < 6 by decide), trivial⟩⟩, ⟨show 1 < 6 by decide, _, rfl, .vars ⟨.loc 2 _ _ (show 2 < 6 by decide), .d _, .d _, .d _, trivial⟩⟩, ⟨show 2 < 6 by decide, _, rfl, .lst _ _ _⟩, ⟨show 3 < 6 by decide, _, rfl, .vars ⟨.loc 4 _ _ (show 4 < 6 by decide), .d _, .d _, .d _, trivial⟩⟩, ⟨show 4 < 6 by decide, _, rfl, .lst _ _ _⟩, ⟨show 5 < 6 by decide, _, rfl, .vars ⟨.d _, .d _, .d _, .d _, .d _, .d _, trivial⟩⟩, trivial⟩)
          · refine stepX (c := y68) rfl hg71 ?_
            refine stepX (c := y68) rfl hg71 ?_
            refine stepX (c := y68) rfl hg71 ?_
            refine stepX (c := y68) rfl hg71 ?_
            refine stepX (c := y68) rfl hg71 ?_
            refine stepX (c := y68) rfl hg71 ?_
            refine step (v := .d (.bool false)) (st_pickF (b := y68) rfl hg71 rfl) ?_
            exact RunOps.nil' (Norm.mk [0, 1, 2, 3, 4, 5] (by decide) (by decide) (by decide) ⟨.ptr 0 _ _ (show 0 < 6 by decide), .ptr 5 _ _ (show 5 < 6 by decide), .d _, .d _, .eq (by simp [hg71]), trivial⟩ ⟨⟨show 0 < 6 by decide, _, rfl, .vars ⟨.ptr 1 _ _ (show 1 < 6 by decide), .ptr 3 _ _ (show 3 < 6 by decide), trivial⟩⟩, ⟨show 1 < 6 by decide, _, rfl, .vars ⟨.loc 2 _ _ (show 2 < 6 by decide), .d _, .d _, .d _, trivial⟩⟩, ⟨show 2 < 6 by decide, _, rfl, .lst _ _ _⟩, ⟨show 3 < 6 by decide, _, rfl, .vars ⟨.loc 4 _ _ (show 4 < 6 by decide), .d _, .d _, .d _, trivial⟩⟩, ⟨show 4 < 6 by decide, _, rfl, .lst _ _ _⟩, ⟨show 5 < 6 by decide, _, rfl, .vars ⟨.d _, .d _, .d _, .d _, .d _, .d _, trivial⟩⟩, trivial⟩)
        by_cases hc72 : (y68 && (decide (i69 < (z66.a0.L.length : Int)))) = true
        · replace h := iteT hc72 h
          refine NWp.condT (t := (y68 && (decide (i69 < (z66.a0.L.length : Int))))) rfl hc72 ?_
          refine NWp.skip ?_
          refine NWp.seq ?_
          refine NWp.block ?_
          obtain ⟨x73, hx73, h⟩ := bindE h
          obtain ⟨x74, hx74, h⟩ := bindE h
          refine NWp.opsE ⟨tab [(7, .ptr 0 0 0), (8, .ptr 5 0 0), (13, .d (.bool (x73 == x74))), (14, .d (.int .i64 i69))], stab [(0, .var [.ptr 1 0 0, .ptr 3 0 0]), (1, .var [.loc 2 0 z31.length, .d (.int .i64 z32), .d (.int .i64 z33), .d (.int .i64 z34)]), (2, .lst true (some 3) (List.map eapi_Item z31)), (3, .var [.loc 4 0 z62.length, .d (.int .i64 z63), .d (.int .i64 z64), .d (.int .i64 z65)]), (4, .lst true (some 3) (List.map eapi_Item z62)), (5, .var [.d (.int .i64 z66.a0.Places), .d (eL (some 3) eapi_Item z66.a0.L), .d (.int .i64 z66.a0.Lost), .d (.int .i64 z66.a1.Places), .d (eL (some 3) eapi_Item z66.a1.L), .d (.int .i64 z66.a1.Lost)])], 6⟩ ?_ ?_
          · refine step (v := .ptr 5 0 0) rfl ?_
            refine step (v := .ptr 5 0 1) rfl ?_
            refine step (v := .d (eL (some 3) eapi_Item z66.a0.L)) rfl ?_
            refine step (v := .d (.int .i64 i69)) rfl ?_
            refine step (v := .d (.cptr (some 3) (eapi_Item x73) 0)) (st_iaddr (xs := z66.a0.L) (e := eapi_Item) hx73 rfl rfl) ?_
            refine step (v := .d (eapi_Item x73)) rfl ?_
            refine step (v := .ptr 5 0 3) rfl ?_
            refine step (v := .ptr 5 0 4) rfl ?_
            refine step (v := .d (eL (some 3) eapi_Item z66.a1.L)) rfl ?_
            refine step (v := .d (.int .i64 i69)) rfl ?_
            refine step (v := .d (.cptr (some 3) (eapi_Item x74) 0)) (st_iaddr (xs := z66.a1.L) (e := eapi_Item) hx74 rfl rfl) ?_
            refine step (v := .d (eapi_Item x74)) rfl ?_
            refine step (v := .d (.bool (x73 == x74))) (st_eqS (neg := false) rfl rfl (eqS_api_Item x73 x74)) ?_
            refine step (v := .d (.bool (x73 == x74))) rfl ?_
            exact RunOps.nil' (Norm.mk [0, 1, 2, 3, 4, 5] (by decide) (by decide) (by decide) ⟨.ptr 0 _ _ (show 0 < 6 by decide), .ptr 5 _ _ (show 5 < 6 by decide), .d _, .d _, trivial⟩ ⟨⟨show 0 < 6 by decide, _, rfl, .vars ⟨.ptr 1 _ _ (show 1 < 6 by decide), .ptr 3 _ _ (show 3 < 6 by decide), trivial⟩⟩, ⟨show 1 < 6 by decide, _, rfl, .vars ⟨.loc 2 _ _ (show 2 < 6 by decide), .d _, .d _, .d _, trivial⟩⟩, ⟨show 2 < 6 by decide, _, rfl, .lst _ _ _⟩, ⟨show 3 < 6 by decide, _, rfl, .vars ⟨.loc 4 _ _ (show 4 < 6 by decide), .d _, .d _, .d _, trivial⟩⟩, ⟨show 4 < 6 by decide, _, rfl, .lst _ _ _⟩, ⟨show 5 < 6 by decide, _, rfl, .vars ⟨.d _, .d _, .d _, .d _, .d _, .d _, trivial⟩⟩, trivial⟩)
          have hh := Option.some.inj h
          subst hh
          refine NWp.opsE ⟨tab [(7, .ptr 0 0 0), (8, .ptr 5 0 0), (13, .d (.bool (x73 == x74))), (14, .d (.int .i64 (IntKind.i64.wrap (i69 + 1))))], stab [(0, .var [.ptr 1 0 0, .ptr 3 0 0]), (1, .var [.loc 2 0 z31.length, .d (.int .i64 z32), .d (.int .i64 z33), .d (.int .i64 z34)]), (2, .lst true (some 3) (List.map eapi_Item z31)), (3, .var [.loc 4 0 z62.length, .d (.int .i64 z63), .d (.int .i64 z64), .d (.int .i64 z65)]), (4, .lst true (some 3) (List.map eapi_Item z62)), (5, .var [.d (.int .i64 z66.a0.Places), .d (eL (some 3) eapi_Item z66.a0.L), .d (.int .i64 z66.a0.Lost), .d (.int .i64 z66.a1.Places), .d (eL (some 3) eapi_Item z66.a1.L), .d (.int .i64 z66.a1.Lost)])], 6⟩ ?_ ?_
          · refine step (v := .d (.int .i64 i69)) rfl ?_
            refine step (v := .d (.int .i64 (IntKind.i64.wrap (i69 + 1)))) rfl ?_
            refine step (v := .d (.int .i64 (IntKind.i64.wrap (i69 + 1)))) rfl ?_
            exact RunOps.nil' (Norm.mk [0, 1, 2, 3, 4, 5] (by decide) (by decide) (by decide) ⟨.ptr 0 _ _ (show 0 < 6 by decide), .ptr 5 _ _ (show 5 < 6 by decide), .d _, .d _, trivial⟩ ⟨⟨show 0 < 6 by decide, _, rfl, .vars ⟨.ptr 1 _ _ (show 1 < 6 by decide), .ptr 3 _ _ (show 3 < 6 by decide), trivial⟩⟩, ⟨show 1 < 6 by decide, _, rfl, .vars ⟨.loc 2 _ _ (show 2 < 6 by decide), .d _, .d _, .d _, trivial⟩⟩, ⟨show 2 < 6 by decide, _, rfl, .lst _ _ _⟩, ⟨show 3 < 6 by decide, _, rfl, .vars ⟨.loc 4 _ _ (show 4 < 6 by decide), .d _, .d _, .d _, trivial⟩⟩, ⟨show 4 < 6 by decide, _, rfl, .lst _ _ _⟩, ⟨show 5 < 6 by decide, _, rfl, .vars ⟨.d _, .d _, .d _, .d _, .d _, .d _, trivial⟩⟩, trivial⟩)
          exact And.intro rfl rfl
        · replace h := iteF hc72 h
          refine NWp.condF (t := (y68 && (decide (i69 < (z66.a0.L.length : Int))))) rfl hc72 ?_
          have hh := Option.some.inj h
          subst hh
          refine NWp.norm (s0 := ⟨tab [(7, .ptr 0 0 0), (8, .ptr 5 0 0), (13, .d (.bool y68))], stab [(0, .var [.ptr 1 0 0, .ptr 3 0 0]), (1, .var [.loc 2 0 z31.length, .d (.int .i64 z32), .d (.int .i64 z33), .d (.int .i64 z34)]), (2, .lst true (some 3) (List.map eapi_Item z31)), (3, .var [.loc 4 0 z62.length, .d (.int .i64 z63), .d (.int .i64 z64), .d (.int .i64 z65)]), (4, .lst true (some 3) (List.map eapi_Item z62)), (5, .var [.d (.int .i64 z66.a0.Places), .d (eL (some 3) eapi_Item z66.a0.L), .d (.int .i64 z66.a0.Lost), .d (.int .i64 z66.a1.Places), .d (eL (some 3) eapi_Item z66.a1.L), .d (.int .i64 z66.a1.Lost)])], 6⟩) (Norm.mk [0, 1, 2, 3, 4, 5] (by decide) (by decide) (by decide) ⟨.ptr 0 _ _ (show 0 < 6 by decide), .ptr 5 _ _ (show 5 < 6 by decide), .d _, trivial⟩ ⟨⟨show 0 < 6 by decide, _, rfl, .vars ⟨.ptr 1 _ _ (show 1 < 6 by decide), .ptr 3 _ _ (show 3 < 6 by decide), trivial⟩⟩, ⟨show 1 < 6 by decide, _, rfl, .vars ⟨.loc 2 _ _ (show 2 < 6 by decide), .d _, .d _, .d _, trivial⟩⟩, ⟨show 2 < 6 by decide, _, rfl, .lst _ _ _⟩, ⟨show 3 < 6 by decide, _, rfl, .vars ⟨.loc 4 _ _ (show 4 < 6 by decide), .d _, .d _, .d _, trivial⟩⟩, ⟨show 4 < 6 by decide, _, rfl, .lst _ _ _⟩, ⟨show 5 < 6 by decide, _, rfl, .vars ⟨.d _, .d _, .d _, .d _, .d _, .d _, trivial⟩⟩, trivial⟩) ?_
          refine NWp.exit ?_
          exact And.intro rfl rfl
      refine NWp.opsJ ⟨tab [(7, .ptr 0 0 0), (8, .ptr 5 0 0), (13, .d (.bool z75)), (15, .d (.nilp))], stab [(0, .var [.ptr 1 0 0, .ptr 3 0 0]), (1, .var [.loc 2 0 z31.length, .d (.int .i64 z32), .d (.int .i64 z33), .d (.int .i64 z34)]), (2, .lst true (some 3) (List.map eapi_Item z31)), (3, .var [.loc 4 0 z62.length, .d (.int .i64 z63), .d (.int .i64 z64), .d (.int .i64 z65)]), (4, .lst true (some 3) (List.map eapi_Item z62)), (5, .var [.d (.int .i64 z66.a0.Places), .d (eL (some 3) eapi_Item z66.a0.L), .d (.int .i64 z66.a0.Lost), .d (.int .i64 z66.a1.Places), .d (eL (some 3) eapi_Item z66.a1.L), .d (.int .i64 z66.a1.Lost)])], 6⟩ ?_ ?_
      · refine step (v := .d (.nilp)) rfl ?_
        exact RunOps.nil' (Norm.mk [0, 1, 2, 3, 4, 5] (by decide) (by decide) (by decide) ⟨.ptr 0 _ _ (show 0 < 6 by decide), .ptr 5 _ _ (show 5 < 6 by decide), .d _, .d _, trivial⟩ ⟨⟨show 0 < 6 by decide, _, rfl, .vars ⟨.ptr 1 _ _ (show 1 < 6 by decide), .ptr 3 _ _ (show 3 < 6 by decide), trivial⟩⟩, ⟨show 1 < 6 by decide, _, rfl, .vars ⟨.loc 2 _ _ (show 2 < 6 by decide), .d _, .d _, .d _, trivial⟩⟩, ⟨show 2 < 6 by decide, _, rfl, .lst _ _ _⟩, ⟨show 3 < 6 by decide, _, rfl, .vars ⟨.loc 4 _ _ (show 4 < 6 by decide), .d _, .d _, .d _, trivial⟩⟩, ⟨show 4 < 6 by decide, _, rfl, .lst _ _ _⟩, ⟨show 5 < 6 by decide, _, rfl, .vars ⟨.d _, .d _, .d _, .d _, .d _, .d _, trivial⟩⟩, trivial⟩)
      obtain ⟨r77, hr77, h⟩ := bindE h
      obtain ⟨y85, hv, h⟩ := bindE h
      refine NWp.opsSJ ⟨tab [(6, .d (.bool y85))], stab [], 0⟩ ?_ ?_
      · refine stepL [] [] (v := .ptr 0 0 0) rfl rfl rfl ?_
        refine stepL [0] [] (v := .ptr 1 0 0) rfl rfl rfl ?_
        refine stepL [] [] (v := .ptr 0 0 1) rfl rfl rfl ?_
        refine stepL [0] [] (v := .ptr 3 0 0) rfl rfl rfl ?_
        refine stepLW (σ' := (stab [(0, .var [.ptr 1 0 0, .ptr 3 0 0]), (1, .var [.loc 2 0 z31.length, .d (.int .i64 z32), .d (.int .i64 z33), .d (.int .i64 z34)]), (2, .lst true (some 3) (List.map eapi_Item z31)), (3, .var [.loc 4 0 z62.length, .d (.int .i64 z63), .d (.int .i64 z64), .d (.int .i64 z65)]), (4, .lst true (some 3) (List.map eapi_Item z62)), (5, .var [.d (.int .i64 z66.a0.Places), .d (eL (some 3) eapi_Item z66.a0.L), .d (.int .i64 z66.a0.Lost), .d (.int .i64 z66.a1.Places), .d (eL (some 3) eapi_Item z66.a1.L), .d (.int .i64 z66.a1.Lost)])])) (R := [1, 2, 3, 4]) (W := []) (PCall.fborrow (c_queue_Queue_Same hr77) rfl [(1, .var [.loc 2 0 z31.length, .d (.int .i64 z32), .d (.int .i64 z33), .d (.int .i64 z34)]), (2, .lst true (some 3) (List.map eapi_Item z31)), (3, .var [.loc 4 0 z62.length, .d (.int .i64 z63), .d (.int .i64 z64), .d (.int .i64 z65)]), (4, .lst true (some 3) (List.map eapi_Item z62))] (ViewsB.c (viewB_var rfl (ViewsB.c (viewB_all (xs := z31) (e := eapi_Item) rfl rfl) (ViewsB.c (.d _) (ViewsB.c (.d _) (ViewsB.c (.d _) ViewsB.nil0))))) (ViewsB.c (viewB_var rfl (ViewsB.c (viewB_all (xs := z62) (e := eapi_Item) rfl rfl) (ViewsB.c (.d _) (ViewsB.c (.d _) (ViewsB.c (.d _) ViewsB.nil0))))) ViewsB.nil0))) ⟨rfl, rfl, rfl, rfl, trivial⟩ rfl rfl rfl ?_
        refine stepL [] [] (v := .d (.bool z75)) rfl rfl rfl ?_
        refine stepL [] [] (v := .d (.bool (r77 == z75))) rfl rfl rfl ?_
        refine stepL [] [] (v := .d (.bool (r77 == z75))) rfl rfl rfl ?_
        by_cases hg78 : (r77 == z75) = true
        · replace hv := iteT hg78 hv
          obtain ⟨r79, hr79, hv⟩ := bindE hv
          refine stepLG (c := (r77 == z75)) rfl hg78 ?_
          refine stepL [] [] (v := .ptr 0 0 1) rfl rfl rfl ?_
          refine stepLG (c := (r77 == z75)) rfl hg78 ?_
          refine stepL [0] [] (v := .ptr 3 0 0) rfl rfl rfl ?_
          refine stepLG (c := (r77 == z75)) rfl hg78 ?_
          refine stepL [] [] (v := .ptr 0 0 0) rfl rfl rfl ?_
          refine stepLG (c := (r77 == z75)) rfl hg78 ?_
          refine stepL [0] [] (v := .ptr 1 0 0) rfl rfl rfl ?_
          refine stepLG (c := (r77 == z75)) rfl hg78 ?_
          refine stepLW (σ' := (stab [(0, .var [.ptr 1 0 0, .ptr 3 0 0]), (1, .var [.loc 2 0 z31.length, .d (.int .i64 z32), .d (.int .i64 z33), .d (.int .i64 z34)]), (2, .lst true (some 3) (List.map eapi_Item z31)), (3, .var [.loc 4 0 z62.length, .d (.int .i64 z63), .d (.int .i64 z64), .d (.int .i64 z65)]), (4, .lst true (some 3) (List.map eapi_Item z62)), (5, .var [.d (.int .i64 z66.a0.Places), .d (eL (some 3) eapi_Item z66.a0.L), .d (.int .i64 z66.a0.Lost), .d (.int .i64 z66.a1.Places), .d (eL (some 3) eapi_Item z66.a1.L), .d (.int .i64 z66.a1.Lost)])])) (R := [1, 2, 3, 4]) (W := []) (PCall.fborrow (c_queue_Queue_Same hr79) rfl [(1, .var [.loc 2 0 z31.length, .d (.int .i64 z32), .d (.int .i64 z33), .d (.int .i64 z34)]), (2, .lst true (some 3) (List.map eapi_Item z31)), (3, .var [.loc 4 0 z62.length, .d (.int .i64 z63), .d (.int .i64 z64), .d (.int .i64 z65)]), (4, .lst true (some 3) (List.map eapi_Item z62))] (ViewsB.c (viewB_var rfl (ViewsB.c (viewB_all (xs := z62) (e := eapi_Item) rfl rfl) (ViewsB.c (.d _) (ViewsB.c (.d _) (ViewsB.c (.d _) ViewsB.nil0))))) (ViewsB.c (viewB_var rfl (ViewsB.c (viewB_all (xs := z31) (e := eapi_Item) rfl rfl) (ViewsB.c (.d _) (ViewsB.c (.d _) (ViewsB.c (.d _) ViewsB.nil0))))) ViewsB.nil0))) ⟨rfl, rfl, rfl, rfl, trivial⟩ rfl rfl rfl ?_
          refine stepLG (c := (r77 == z75)) rfl hg78 ?_
          refine stepL [] [] (v := .d (.bool z75)) rfl rfl rfl ?_
          refine stepLG (c := (r77 == z75)) rfl hg78 ?_
          refine stepL [] [] (v := .d (.bool (r79 == z75))) rfl rfl rfl ?_
          refine stepL [] [] (v := .d (.bool (r79 == z75))) (st_pickT (b := (r77 == z75)) rfl hg78 rfl) rfl rfl ?_
          refine stepL [] [] (v := .d (.bool (r79 == z75))) rfl rfl rfl ?_
          by_cases hg80 : (r79 == z75) = true
          · replace hv := iteT hg80 hv
            obtain ⟨r81, hr81, hv⟩ := bindE hv
            refine stepLG (c := (r79 == z75)) rfl hg80 ?_
            refine stepL [] [] (v := .ptr 0 0 0) rfl rfl rfl ?_
            refine stepLG (c := (r79 == z75)) rfl hg80 ?_
            refine stepL [0] [] (v := .ptr 1 0 0) rfl rfl rfl ?_
            refine stepLG (c := (r79 == z75)) rfl hg80 ?_
            refine stepL [] [] (v := .ptr 0 0 0) rfl rfl rfl ?_
            refine stepLG (c := (r79 == z75)) rfl hg80 ?_
            refine stepL [0] [] (v := .ptr 1 0 0) rfl rfl rfl ?_
            refine stepLG (c := (r79 == z75)) rfl hg80 ?_
            refine stepLW (σ' := (stab [(0, .var [.ptr 1 0 0, .ptr 3 0 0]), (1, .var [.loc 2 0 z31.length, .d (.int .i64 z32), .d (.int .i64 z33), .d (.int .i64 z34)]), (2, .lst true (some 3) (List.map eapi_Item z31)), (3, .var [.loc 4 0 z62.length, .d (.int .i64 z63), .d (.int .i64 z64), .d (.int .i64 z65)]), (4, .lst true (some 3) (List.map eapi_Item z62)), (5, .var [.d (.int .i64 z66.a0.Places), .d (eL (some 3) eapi_Item z66.a0.L), .d (.int .i64 z66.a0.Lost), .d (.int .i64 z66.a1.Places), .d (eL (some 3) eapi_Item z66.a1.L), .d (.int .i64 z66.a1.Lost)])])) (R := [1, 2]) (W := []) (PCall.fborrow (c_queue_Queue_Same hr81) rfl [(1, .var [.loc 2 0 z31.length, .d (.int .i64 z32), .d (.int .i64 z33), .d (.int .i64 z34)]), (2, .lst true (some 3) (List.map eapi_Item z31))] (ViewsB.c (viewB_var rfl (ViewsB.c (viewB_all (xs := z31) (e := eapi_Item) rfl rfl) (ViewsB.c (.d _) (ViewsB.c (.d _) (ViewsB.c (.d _) ViewsB.nil0))))) (ViewsB.c (viewB_var rfl (ViewsB.c (viewB_all (xs := z31) (e := eapi_Item) rfl rfl) (ViewsB.c (.d _) (ViewsB.c (.d _) (ViewsB.c (.d _) ViewsB.nil0))))) ViewsB.nil0))) ⟨rfl, rfl, trivial⟩ rfl rfl rfl ?_
            refine stepL [] [] (v := .d (.bool r81)) (st_pickT (b := (r79 == z75)) rfl hg80 rfl) rfl rfl ?_
            refine stepL [] [] (v := .d (.bool r81)) rfl rfl rfl ?_
            by_cases hg82 : r81 = true
            · replace hv := iteT hg82 hv
              obtain ⟨r83, hr83, hv⟩ := bindE hv
              refine stepLG (c := r81) rfl hg82 ?_
              refine stepL [] [] (v := .d (.nilp)) rfl rfl rfl ?_
              refine stepLG (c := r81) rfl hg82 ?_
              refine stepL [] [] (v := .ptr 0 0 0) rfl rfl rfl ?_
              refine stepLG (c := r81) rfl hg82 ?_
              refine stepL [0] [] (v := .ptr 1 0 0) rfl rfl rfl ?_
              refine stepLG (c := r81) rfl hg82 ?_
              refine stepLW (σ' := (stab [(0, .var [.ptr 1 0 0, .ptr 3 0 0]), (1, .var [.loc 2 0 z31.length, .d (.int .i64 z32), .d (.int .i64 z33), .d (.int .i64 z34)]), (2, .lst true (some 3) (List.map eapi_Item z31)), (3, .var [.loc 4 0 z62.length, .d (.int .i64 z63), .d (.int .i64 z64), .d (.int .i64 z65)]), (4, .lst true (some 3) (List.map eapi_Item z62)), (5, .var [.d (.int .i64 z66.a0.Places), .d (eL (some 3) eapi_Item z66.a0.L), .d (.int .i64 z66.a0.Lost), .d (.int .i64 z66.a1.Places), .d (eL (some 3) eapi_Item z66.a1.L), .d (.int .i64 z66.a1.Lost)])])) (R := [1, 2]) (W := []) (PCall.fborrow (c_queue_Queue_Same_nil1 hr83) rfl [(1, .var [.loc 2 0 z31.length, .d (.int .i64 z32), .d (.int .i64 z33), .d (.int .i64 z34)]), (2, .lst true (some 3) (List.map eapi_Item z31))] (ViewsB.c (.d _) (ViewsB.c (viewB_var rfl (ViewsB.c (viewB_all (xs := z31) (e := eapi_Item) rfl rfl) (ViewsB.c (.d _) (ViewsB.c (.d _) (ViewsB.c (.d _) ViewsB.nil0))))) ViewsB.nil0))) ⟨rfl, rfl, trivial⟩ rfl rfl rfl ?_
              refine stepLG (c := r81) rfl hg82 ?_
              refine stepL [] [] (v := .ptr 5 0 0) rfl rfl rfl ?_
              refine stepLG (c := r81) rfl hg82 ?_
              refine stepL [] [] (v := .ptr 5 0 1) rfl rfl rfl ?_
              refine stepLG (c := r81) rfl hg82 ?_
              refine stepL [5] [] (v := .d (eL (some 3) eapi_Item z66.a0.L)) rfl rfl rfl ?_
              refine stepLG (c := r81) rfl hg82 ?_
              refine stepL [] [] (v := .d (.int .i64 (z66.a0.L.length : Int))) (st_len (xs := z66.a0.L) (e := eapi_Item) rfl) rfl rfl ?_
              refine stepLG (c := r81) rfl hg82 ?_
              refine stepL [] [] (v := .d (.bool ((z66.a0.L.length : Int) == 0))) rfl rfl rfl ?_
              refine stepLG (c := r81) rfl hg82 ?_
              refine stepL [] [] (v := .d (.bool ((z66.a0.L.length : Int) == 0))) rfl rfl rfl ?_
              by_cases hg84 : ((z66.a0.L.length : Int) == 0) = true
              · replace hv := iteT hg84 hv
                refine stepLG (c := ((z66.a0.L.length : Int) == 0)) rfl hg84 ?_
                refine stepL [] [] (v := .ptr 5 0 0) rfl rfl rfl ?_
                refine stepLG (c := ((z66.a0.L.length : Int) == 0)) rfl hg84 ?_
                refine stepL [] [] (v := .ptr 5 0 2) rfl rfl rfl ?_
                refine stepLG (c := ((z66.a0.L.length : Int) == 0)) rfl hg84 ?_
                refine stepL [5] [] (v := .d (.int .i64 z66.a0.Lost)) rfl rfl rfl ?_
                refine stepLG (c := ((z66.a0.L.length : Int) == 0)) rfl hg84 ?_
                refine stepL [] [] (v := .d (.bool (z66.a0.Lost == 0))) rfl rfl rfl ?_
                refine stepLG (c := r81) rfl hg82 ?_
                refine stepL [] [] (v := .d (.bool (z66.a0.Lost == 0))) (st_pickT (b := ((z66.a0.L.length : Int) == 0)) rfl hg84 rfl) rfl rfl ?_
                refine stepLG (c := r81) rfl hg82 ?_
                refine stepL [] [] (v := .d (.bool (r83 == (z66.a0.Lost == 0)))) rfl rfl rfl ?_
                refine stepL [] [] (v := .d (.bool (r83 == (z66.a0.Lost == 0)))) (st_pickT (b := r81) rfl hg82 rfl) rfl rfl ?_
                refine stepL [] [] (v := .d (.bool (r83 == (z66.a0.Lost == 0)))) rfl rfl rfl ?_
                have hh := Option.some.inj hv
                subst hh
                exact RunOpsL.nil' ⟨by decide, Norm.mk [] (by decide) (by decide) (by decide) ⟨.d _, trivial⟩ trivial⟩
              · replace hv := iteF hg84 hv
                refine stepLX (c := ((z66.a0.L.length : Int) == 0)) rfl hg84 ?_
                refine stepLX (c := ((z66.a0.L.length : Int) == 0)) rfl hg84 ?_
                refine stepLX (c := ((z66.a0.L.length : Int) == 0)) rfl hg84 ?_
                refine stepLX (c := ((z66.a0.L.length : Int) == 0)) rfl hg84 ?_
                refine stepLG (c := r81) rfl hg82 ?_
                refine stepL [] [] (v := .d (.bool false)) (st_pickF (b := ((z66.a0.L.length : Int) == 0)) rfl hg84 rfl) rfl rfl ?_
                refine stepLG (c := r81) rfl hg82 ?_
                refine stepL [] [] (v := .d (.bool (r83 == false))) rfl rfl rfl ?_
                refine stepL [] [] (v := .d (.bool (r83 == false))) (st_pickT (b := r81) rfl hg82 rfl) rfl rfl ?_
                refine stepL [] [] (v := .d (.bool (r83 == false))) rfl rfl rfl ?_
                have hh := Option.some.inj hv
                subst hh
                exact RunOpsL.nil' ⟨by decide, Norm.mk [] (by decide) (by decide) (by decide) ⟨.d _, trivial⟩ trivial⟩
            · replace hv := iteF hg82 hv
              refine stepLX (c := r81) rfl hg82 ?_
              refine stepLX (c := r81) rfl hg82 ?_
              refine stepLX (c := r81) rfl hg82 ?_
              refine stepLX (c := r81) rfl hg82 ?_
              refine stepLX (c := r81) rfl hg82 ?_
              refine stepLX (c := r81) rfl hg82 ?_
              refine stepLX (c := r81) rfl hg82 ?_
              refine stepLX (c := r81) rfl hg82 ?_
              refine stepLX (c := r81) rfl hg82 ?_
              refine stepLX (c := r81) rfl hg82 ?_
              refine stepLXX rfl ?_
              refine stepLXX rfl ?_
              refine stepLXX rfl ?_
              refine stepLXX rfl ?_
              refine stepLX (c := r81) rfl hg82 ?_
              refine stepLX (c := r81) rfl hg82 ?_
              refine stepL [] [] (v := .d (.bool false)) (st_pickF (b := r81) rfl hg82 rfl) rfl rfl ?_
              refine stepL [] [] (v := .d (.bool false)) rfl rfl rfl ?_
              have hh := Option.some.inj hv
              subst hh
              exact RunOpsL.nil' ⟨by decide, Norm.mk [] (by decide) (by decide) (by decide) ⟨.d _, trivial⟩ trivial⟩
          · replace hv := iteF hg80 hv
            refine stepLX (c := (r79 == z75)) rfl hg80 ?_
            refine stepLX (c := (r79 == z75)) rfl hg80 ?_
            refine stepLX (c := (r79 == z75)) rfl hg80 ?_
            refine stepLX (c := (r79 == z75)) rfl hg80 ?_
            refine stepLX (c := (r79 == z75)) rfl hg80 ?_
            refine stepL [] [] (v := .d (.bool false)) (st_pickF (b := (r79 == z75)) rfl hg80 rfl) rfl rfl ?_
            refine stepL [] [] (v := .d (.bool false)) rfl rfl rfl ?_
            refine stepLX (c := false) rfl (by decide) ?_
            refine stepLX (c := false) rfl (by decide) ?_
            refine stepLX (c := false) rfl (by decide) ?_
            refine stepLX (c := false) rfl (by decide) ?_
            refine stepLX (c := false) rfl (by decide) ?_
            refine stepLX (c := false) rfl (by decide) ?_
            refine stepLX (c := false) rfl (by decide) ?_
            refine stepLX (c := false) rfl (by decide) ?_
            refine stepLX (c := false) rfl (by decide) ?_
            refine stepLX (c := false) rfl (by decide) ?_
            refine stepLXX rfl ?_
            refine stepLXX rfl ?_
            refine stepLXX rfl ?_
            refine stepLXX rfl ?_
            refine stepLX (c := false) rfl (by decide) ?_
            refine stepLX (c := false) rfl (by decide) ?_
            refine stepL [] [] (v := .d (.bool false)) (st_pickF (b := false) rfl (by decide) rfl) rfl rfl ?_
            refine stepL [] [] (v := .d (.bool false)) rfl rfl rfl ?_
            have hh := Option.some.inj hv
            subst hh
            exact RunOpsL.nil' ⟨by decide, Norm.mk [] (by decide) (by decide) (by decide) ⟨.d _, trivial⟩ trivial⟩
        · replace hv := iteF hg78 hv
          refine stepLX (c := (r77 == z75)) rfl hg78 ?_
          refine stepLX (c := (r77 == z75)) rfl hg78 ?_
          refine stepLX (c := (r77 == z75)) rfl hg78 ?_
          refine stepLX (c := (r77 == z75)) rfl hg78 ?_
          refine stepLX (c := (r77 == z75)) rfl hg78 ?_
          refine stepLX (c := (r77 == z75)) rfl hg78 ?_
          refine stepLX (c := (r77 == z75)) rfl hg78 ?_
          refine stepL [] [] (v := .d (.bool false)) (st_pickF (b := (r77 == z75)) rfl hg78 rfl) rfl rfl ?_
          refine stepL [] [] (v := .d (.bool false)) rfl rfl rfl ?_
          refine stepLX (c := false) rfl (by decide) ?_
          refine stepLX (c := false) rfl (by decide) ?_
          refine stepLX (c := false) rfl (by decide) ?_
          refine stepLX (c := false) rfl (by decide) ?_
          refine stepLX (c := false) rfl (by decide) ?_
          refine stepL [] [] (v := .d (.bool false)) (st_pickF (b := false) rfl (by decide) rfl) rfl rfl ?_
          refine stepL [] [] (v := .d (.bool false)) rfl rfl rfl ?_
          refine stepLX (c := false) rfl (by decide) ?_
          refine stepLX (c := false) rfl (by decide) ?_
          refine stepLX (c := false) rfl (by decide) ?_
          refine stepLX (c := false) rfl (by decide) ?_
          refine stepLX (c := false) rfl (by decide) ?_
          refine stepLX (c := false) rfl (by decide) ?_
          refine stepLX (c := false) rfl (by decide) ?_
          refine stepLX (c := false) rfl (by decide) ?_
          refine stepLX (c := false) rfl (by decide) ?_
          refine stepLX (c := false) rfl (by decide) ?_
          refine stepLXX rfl ?_
          refine stepLXX rfl ?_
          refine stepLXX rfl ?_
          refine stepLXX rfl ?_
          refine stepLX (c := false) rfl (by decide) ?_
          refine stepLX (c := false) rfl (by decide) ?_
          refine stepL [] [] (v := .d (.bool false)) (st_pickF (b := false) rfl (by decide) rfl) rfl rfl ?_
          refine stepL [] [] (v := .d (.bool false)) rfl rfl rfl ?_
          have hh := Option.some.inj hv
          subst hh
          exact RunOpsL.nil' ⟨by decide, Norm.mk [] (by decide) (by decide) (by decide) ⟨.d _, trivial⟩ trivial⟩
      have hh := Option.some.inj h
      subst hh
      refine NWp.ret ?_
      show FQ _ _ _ _
      exact FQ.mk1 (.inr rfl) (res_t (v := .d (.bool y85)) rfl rfl) (RV.d trivial)


end Go.AM
