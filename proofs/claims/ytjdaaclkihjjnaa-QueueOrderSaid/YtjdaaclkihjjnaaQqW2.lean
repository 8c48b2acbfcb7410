import Derived.Test.YtjdaaclkihjjnaaQqW1
/-  What they are in the program: walks. -/
set_option linter.unusedVariables false
set_option linter.unusedSimpArgs false
namespace Go.AM
open Go Go.RowKit Go.Proofs

attribute [local irreducible] RunOps RunOpsL

theorem c_law16_QueueOrder {a0 : Int} {a1 : (List law16_Act)} {r : Bool} (h : law16_QueueOrder a0 a1 = some r) : PCall Try.prog 4 [.int .i64 a0, eL (some 4) elaw16_Act a1] (.bool r) := by
  refine PCall.introN ok4 (show 2 ≤ 128 by decide) ?_
  refine NWp.norm (s0 := ⟨tab [(0, .d (.int .i64 a0)), (1, .d (eL (some 4) elaw16_Act a1))], stab [], 0⟩) (Norm.mk [] (by decide) (by decide) (by decide) ⟨.d _, .d _, trivial⟩ trivial) ?_
  refine NWp.opsJ ⟨tab [(0, .d (.int .i64 a0)), (1, .d (eL (some 4) elaw16_Act a1))], stab [], 0⟩ ?_ ?_
  · refine step (v := .d (.bool false)) rfl ?_
    exact RunOps.nil' (Norm.mk [] (by decide) (by decide) (by decide) ⟨.d _, .d _, trivial⟩ trivial)
  refine NWp.seq ?_
  obtain ⟨r1, hr1, h⟩ := bindE h
  refine NWp.opsJ ⟨tab [(0, .d (.int .i64 a0)), (1, .d (eL (some 4) elaw16_Act a1)), (18, .d (.bool (!r1)))], stab [], 0⟩ ?_ ?_
  · refine stepC (r := .bool r1) ArgsOk.nil' (c_law16_awake hr1) ?_
    refine step (v := .d (.bool (!r1))) rfl ?_
    exact RunOps.nil' (Norm.mk [] (by decide) (by decide) (by decide) ⟨.d _, .d _, .d _, trivial⟩ trivial)
  by_cases hc2 : (!r1) = true
  · replace h := iteT hc2 h
    refine NWp.condT (t := (!r1)) rfl hc2 ?_
    refine NWp.opsJ ⟨tab [(4, .d (.bool false))], stab [], 0⟩ ?_ ?_
    · refine step (v := .d (.bool false)) rfl ?_
      exact RunOps.nil' (Norm.mk [] (by decide) (by decide) (by decide) ⟨.d _, trivial⟩ trivial)
    have hh := Option.some.inj h
    subst hh
    refine NWp.ret ?_
    show FQ _ _ _ _
    exact FQ.mk1 (.inr rfl) (res_t (v := .d (.bool false)) rfl rfl) (RV.d trivial)
  · replace h := iteF hc2 h
    refine NWp.condF (t := (!r1)) rfl hc2 ?_
    refine NWp.skip ?_
    refine NWp.seq ?_
    refine NWp.opsJ ⟨tab [(0, .d (.int .i64 a0)), (1, .d (eL (some 4) elaw16_Act a1)), (21, .d (.bool (decide ((a1.length : Int) > 200))))], stab [], 0⟩ ?_ ?_
    · refine step (v := .d (eL (some 4) elaw16_Act a1)) rfl ?_
      refine step (v := .d (.int .i64 (a1.length : Int))) (st_len (xs := a1) (e := elaw16_Act) rfl) ?_
      refine step (v := .d (.bool (decide ((a1.length : Int) > 200)))) rfl ?_
      exact RunOps.nil' (Norm.mk [] (by decide) (by decide) (by decide) ⟨.d _, .d _, .d _, trivial⟩ trivial)
    by_cases hc3 : decide ((a1.length : Int) > 200) = true
    · replace h := iteT hc3 h
      refine NWp.condT (t := decide ((a1.length : Int) > 200)) rfl hc3 ?_
      refine NWp.opsJ ⟨tab [(4, .d (.bool true))], stab [], 0⟩ ?_ ?_
      · refine step (v := .d (.bool true)) rfl ?_
        exact RunOps.nil' (Norm.mk [] (by decide) (by decide) (by decide) ⟨.d _, trivial⟩ trivial)
      have hh := Option.some.inj h
      subst hh
      refine NWp.ret ?_
      show FQ _ _ _ _
      exact FQ.mk1 (.inr rfl) (res_t (v := .d (.bool true)) rfl rfl) (RV.d trivial)
    · replace h := iteF hc3 h
      refine NWp.condF (t := decide ((a1.length : Int) > 200)) rfl hc3 ?_
      refine NWp.skip ?_
      obtain ⟨r4, hr4, h⟩ := bindE h
      refine NWp.opsJ ⟨tab [(1, .d (eL (some 4) elaw16_Act a1)), (5, .ptr 0 0 0)], stab [(0, .var [.loc 1 0 r4.ring.length, .d (.int .i64 r4.first), .d (.int .i64 r4.n_), .d (.int .i64 r4.lost)]), (1, .lst true (some 3) (List.map eapi_Item r4.ring))], 2⟩ ?_ ?_
      · refine step (v := .d (.int .i64 a0)) rfl ?_
        refine stepW (v := .ptr 0 0 0) (σ' := (upd (upd (stab []) 1 (some (.lst true (some 3) (List.map eapi_Item r4.ring)))) 0 (some (.var [.loc 1 0 r4.ring.length, .d (.int .i64 r4.first), .d (.int .i64 r4.n_), .d (.int .i64 r4.lost)])))) (n' := 2) (SCall.lift [] (c_queue_New hr4) (show 0 ≤ 2 by decide) (by decide) (show ∀ i ∈ [], i < 0 by decide) (dom_c (show 0 < 2 by decide) (dom_c (show 1 < 2 by decide) dom_n)) (VNs.c (.d _) VNs.nil0) SN.nil0) (show 0 ≤ 2 by decide) ?_
        refine step (v := .ptr 0 0 0) rfl ?_
        exact RunOps.nil' (Norm.mk [0, 1] (by decide) (by decide) (by decide) ⟨.d _, .ptr 0 _ _ (show 0 < 2 by decide), trivial⟩ ⟨⟨show 0 < 2 by decide, _, rfl, .vars ⟨.loc 1 _ _ (show 1 < 2 by decide), .d _, .d _, .d _, trivial⟩⟩, ⟨show 1 < 2 by decide, _, rfl, .lst _ _ _⟩, trivial⟩)
      refine NWp.opsJ ⟨tab [(1, .d (eL (some 4) elaw16_Act a1)), (5, .ptr 0 0 0), (6, .d (.nils)), (7, .d (.nils))], stab [(0, .var [.loc 1 0 r4.ring.length, .d (.int .i64 r4.first), .d (.int .i64 r4.n_), .d (.int .i64 r4.lost)]), (1, .lst true (some 3) (List.map eapi_Item r4.ring))], 2⟩ ?_ ?_
      · refine step (v := .d (.nils)) rfl ?_
        refine step (v := .d (.nils)) rfl ?_
        exact RunOps.nil' (Norm.mk [0, 1] (by decide) (by decide) (by decide) ⟨.d _, .ptr 0 _ _ (show 0 < 2 by decide), .d _, .d _, trivial⟩ ⟨⟨show 0 < 2 by decide, _, rfl, .vars ⟨.loc 1 _ _ (show 1 < 2 by decide), .d _, .d _, .d _, trivial⟩⟩, ⟨show 1 < 2 by decide, _, rfl, .lst _ _ _⟩, trivial⟩)
      refine NWp.opsJ ⟨tab [(1, .d (eL (some 4) elaw16_Act a1)), (5, .ptr 0 0 0), (6, .d (.nils)), (7, .d (.nils)), (8, .d (.int .i64 0))], stab [(0, .var [.loc 1 0 r4.ring.length, .d (.int .i64 r4.first), .d (.int .i64 r4.n_), .d (.int .i64 r4.lost)]), (1, .lst true (some 3) (List.map eapi_Item r4.ring))], 2⟩ ?_ ?_
      · refine step (v := .d (.int .i64 0)) rfl ?_
        exact RunOps.nil' (Norm.mk [0, 1] (by decide) (by decide) (by decide) ⟨.d _, .ptr 0 _ _ (show 0 < 2 by decide), .d _, .d _, .d _, trivial⟩ ⟨⟨show 0 < 2 by decide, _, rfl, .vars ⟨.loc 1 _ _ (show 1 < 2 by decide), .d _, .d _, .d _, trivial⟩⟩, ⟨show 1 < 2 by decide, _, rfl, .lst _ _ _⟩, trivial⟩)
      refine NWp.seq ?_
      refine NWp.opsJ ⟨tab [(5, .ptr 0 0 0), (6, .d (.nils)), (7, .d (.nils)), (8, .d (.int .i64 0)), (24, .d (eL (some 4) elaw16_Act a1)), (25, .d (.int .i64 (a1.length : Int))), (26, .d (.int .i64 0))], stab [(0, .var [.loc 1 0 r4.ring.length, .d (.int .i64 r4.first), .d (.int .i64 r4.n_), .d (.int .i64 r4.lost)]), (1, .lst true (some 3) (List.map eapi_Item r4.ring))], 2⟩ ?_ ?_
      · refine step (v := .d (eL (some 4) elaw16_Act a1)) rfl ?_
        refine step (v := .d (.int .i64 (a1.length : Int))) (st_len (xs := a1) (e := elaw16_Act) rfl) ?_
        refine step (v := .d (.int .i64 0)) rfl ?_
        exact RunOps.nil' (Norm.mk [0, 1] (by decide) (by decide) (by decide) ⟨.ptr 0 _ _ (show 0 < 2 by decide), .d _, .d _, .d _, .d _, .d _, .d _, trivial⟩ ⟨⟨show 0 < 2 by decide, _, rfl, .vars ⟨.loc 1 _ _ (show 1 < 2 by decide), .d _, .d _, .d _, trivial⟩⟩, ⟨show 1 < 2 by decide, _, rfl, .lst _ _ _⟩, trivial⟩)
      obtain ⟨q64, hl, h⟩ := bindE h
      refine NWp.norm (s0 := ⟨tab [(5, .ptr 0 0 0), (6, .loc 2 0 (([] : List api_Item).length)), (7, .loc 3 0 (([] : List api_Item).length)), (8, .d (.int .i64 0)), (24, .d (eL (some 4) elaw16_Act a1)), (25, .d (.int .i64 (a1.length : Int))), (26, .d (.int .i64 0))], stab [(0, .var [.loc 1 0 r4.ring.length, .d (.int .i64 r4.first), .d (.int .i64 r4.n_), .d (.int .i64 r4.lost)]), (1, .lst true (some 3) (List.map eapi_Item r4.ring)), (2, .lst false (some 3) (List.map eapi_Item ([] : List api_Item))), (3, .lst false (some 3) (List.map eapi_Item ([] : List api_Item)))], 4⟩) (Norm.trans (s2 := ⟨tab [(5, .ptr 0 0 0), (6, .loc 2 0 (([] : List api_Item).length)), (7, .loc 3 0 (([] : List api_Item).length)), (8, .d (.int .i64 0)), (24, .d (eL (some 4) elaw16_Act a1)), (25, .d (.int .i64 (a1.length : Int))), (26, .d (.int .i64 0))], stab [(0, .var [.loc 1 0 r4.ring.length, .d (.int .i64 r4.first), .d (.int .i64 r4.n_), .d (.int .i64 r4.lost)]), (1, .lst true (some 3) (List.map eapi_Item r4.ring)), (2, .lst false (some 3) (List.map eapi_Item ([] : List api_Item))), (3, .lst false (some 3) (List.map eapi_Item ([] : List api_Item)))], 4⟩) (Norm.nil1 6 false (some 3) rfl) (Norm.trans (s2 := ⟨tab [(5, .ptr 0 0 0), (6, .loc 2 0 (([] : List api_Item).length)), (7, .loc 3 0 (([] : List api_Item).length)), (8, .d (.int .i64 0)), (24, .d (eL (some 4) elaw16_Act a1)), (25, .d (.int .i64 (a1.length : Int))), (26, .d (.int .i64 0))], stab [(0, .var [.loc 1 0 r4.ring.length, .d (.int .i64 r4.first), .d (.int .i64 r4.n_), .d (.int .i64 r4.lost)]), (1, .lst true (some 3) (List.map eapi_Item r4.ring)), (2, .lst false (some 3) (List.map eapi_Item ([] : List api_Item))), (3, .lst false (some 3) (List.map eapi_Item ([] : List api_Item)))], 4⟩) (Norm.nil1 7 false (some 3) rfl) (Norm.mk [0, 1, 2, 3] (by decide) (by decide) (by decide) ⟨.ptr 0 _ _ (show 0 < 4 by decide), .loc 2 _ _ (show 2 < 4 by decide), .loc 3 _ _ (show 3 < 4 by decide), .d _, .d _, .d _, .d _, trivial⟩ ⟨⟨show 0 < 4 by decide, _, rfl, .vars ⟨.loc 1 _ _ (show 1 < 4 by decide), .d _, .d _, .d _, trivial⟩⟩, ⟨show 1 < 4 by decide, _, rfl, .lst _ _ _⟩, ⟨show 2 < 4 by decide, _, rfl, .lst _ _ _⟩, ⟨show 3 < 4 by decide, _, rfl, .lst _ _ _⟩, trivial⟩))) ?_
      refine NWp.block ?_
      refine loop_forR (cntU (a1.length : Int)) (fun (i12 : Int) (qq : ((List api_Item) × Int × Int × Int × (List api_Item) × (List api_Item) × Int)) => ⟨tab [(5, .ptr 0 0 0), (6, .loc 2 0 qq.2.2.2.2.1.length), (7, .loc 3 0 qq.2.2.2.2.2.1.length), (8, .d (.int .i64 qq.2.2.2.2.2.2)), (24, .d (eL (some 4) elaw16_Act a1)), (25, .d (.int .i64 (a1.length : Int))), (26, .d (.int .i64 i12))], stab [(0, .var [.loc 1 0 qq.1.length, .d (.int .i64 qq.2.1), .d (.int .i64 qq.2.2.1), .d (.int .i64 qq.2.2.2.1)]), (1, .lst true (some 3) (List.map eapi_Item qq.1)), (2, .lst false (some 3) (List.map eapi_Item qq.2.2.2.2.1)), (3, .lst false (some 3) (List.map eapi_Item qq.2.2.2.2.2.1))], 4⟩) 0 (fun (qq : ((List api_Item) × Int × Int × Int × (List api_Item) × (List api_Item) × Int)) => ⟨tab [(5, .ptr 0 0 0), (6, .loc 2 0 qq.2.2.2.2.1.length), (7, .loc 3 0 qq.2.2.2.2.2.1.length), (8, .d (.int .i64 qq.2.2.2.2.2.2))], stab [(0, .var [.loc 1 0 qq.1.length, .d (.int .i64 qq.2.1), .d (.int .i64 qq.2.2.1), .d (.int .i64 qq.2.2.2.1)]), (1, .lst true (some 3) (List.map eapi_Item qq.1)), (2, .lst false (some 3) (List.map eapi_Item qq.2.2.2.2.1)), (3, .lst false (some 3) (List.map eapi_Item qq.2.2.2.2.2.1))], 4⟩) Low low_step (r := r) hl (by unfold Low; omega) ?_ ?_ ?_ ?_
      · rintro i12 ⟨l5, i6, i7, i8, l9, l10, i11⟩ xr17 hinv15 hgo14 h
        show NWp _ _ _ _ _ ⟨tab [(5, .ptr 0 0 0), (6, .loc 2 0 l9.length), (7, .loc 3 0 l10.length), (8, .d (.int .i64 i11)), (24, .d (eL (some 4) elaw16_Act a1)), (25, .d (.int .i64 (a1.length : Int))), (26, .d (.int .i64 i12))], stab [(0, .var [.loc 1 0 l5.length, .d (.int .i64 i6), .d (.int .i64 i7), .d (.int .i64 i8)]), (1, .lst true (some 3) (List.map eapi_Item l5)), (2, .lst false (some 3) (List.map eapi_Item l9)), (3, .lst false (some 3) (List.map eapi_Item l10))], 4⟩
        have hc16 : decide (i12 < (a1.length : Int)) = true := decide_eq_true hgo14
        refine NWp.opsJ ⟨tab [(5, .ptr 0 0 0), (6, .loc 2 0 l9.length), (7, .loc 3 0 l10.length), (8, .d (.int .i64 i11)), (24, .d (eL (some 4) elaw16_Act a1)), (25, .d (.int .i64 (a1.length : Int))), (26, .d (.int .i64 i12)), (27, .d (.bool (decide (i12 < (a1.length : Int)))))], stab [(0, .var [.loc 1 0 l5.length, .d (.int .i64 i6), .d (.int .i64 i7), .d (.int .i64 i8)]), (1, .lst true (some 3) (List.map eapi_Item l5)), (2, .lst false (some 3) (List.map eapi_Item l9)), (3, .lst false (some 3) (List.map eapi_Item l10))], 4⟩ ?_ ?_
        · refine step (v := .d (.bool (decide (i12 < (a1.length : Int))))) rfl ?_
          exact RunOps.nil' (Norm.mk [0, 1, 2, 3] (by decide) (by decide) (by decide) ⟨.ptr 0 _ _ (show 0 < 4 by decide), .loc 2 _ _ (show 2 < 4 by decide), .loc 3 _ _ (show 3 < 4 by decide), .d _, .d _, .d _, .d _, .d _, trivial⟩ ⟨⟨show 0 < 4 by decide, _, rfl, .vars ⟨.loc 1 _ _ (show 1 < 4 by decide), .d _, .d _, .d _, trivial⟩⟩, ⟨show 1 < 4 by decide, _, rfl, .lst _ _ _⟩, ⟨show 2 < 4 by decide, _, rfl, .lst _ _ _⟩, ⟨show 3 < 4 by decide, _, rfl, .lst _ _ _⟩, trivial⟩)
        refine NWp.rng 25 rfl fun hB13 => ?_
        refine NWp.seq ?_
        refine NWp.condT (t := decide (i12 < (a1.length : Int))) rfl hc16 ?_
        refine NWp.skip ?_
        obtain ⟨q34, hv, h⟩ := bindE h
        refine NWp.seqS (fun (qq : ((List api_Item) × Int × Int × Int × (List api_Item) × (List api_Item) × Int)) => ⟨tab [(5, .ptr 0 0 0), (6, .loc 2 0 qq.2.2.2.2.1.length), (7, .loc 3 0 qq.2.2.2.2.2.1.length), (8, .d (.int .i64 qq.2.2.2.2.2.2)), (24, .d (eL (some 4) elaw16_Act a1)), (25, .d (.int .i64 (a1.length : Int))), (26, .d (.int .i64 i12))], stab [(0, .var [.loc 1 0 qq.1.length, .d (.int .i64 qq.2.1), .d (.int .i64 qq.2.2.1), .d (.int .i64 qq.2.2.2.1)]), (1, .lst true (some 3) (List.map eapi_Item qq.1)), (2, .lst false (some 3) (List.map eapi_Item qq.2.2.2.2.1)), (3, .lst false (some 3) (List.map eapi_Item qq.2.2.2.2.2.1))], 4⟩) (xv := q34) (r := xr17) ?_ ?_ ?_
        · replace h := hv
          refine NWp.block ?_
          obtain ⟨x18, hx18, h⟩ := bindE h
          refine NWp.opsJ ⟨tab [(5, .ptr 0 0 0), (6, .loc 2 0 l9.length), (7, .loc 3 0 l10.length), (8, .d (.int .i64 i11)), (10, .ptr 4 0 0), (24, .d (eL (some 4) elaw16_Act a1)), (25, .d (.int .i64 (a1.length : Int))), (26, .d (.int .i64 i12))], stab [(0, .var [.loc 1 0 l5.length, .d (.int .i64 i6), .d (.int .i64 i7), .d (.int .i64 i8)]), (1, .lst true (some 3) (List.map eapi_Item l5)), (2, .lst false (some 3) (List.map eapi_Item l9)), (3, .lst false (some 3) (List.map eapi_Item l10)), (4, .var [.d (.int .i64 x18.What), .d (.int .u16 x18.X.Pt), .d (.str x18.X.Raw), .d (.int .i64 x18.X.N)])], 5⟩ ?_ ?_
          · refine step (v := .d (.cptr (some 4) (elaw16_Act x18) 0)) (st_iaddr (xs := a1) (e := elaw16_Act) hx18 rfl rfl) ?_
            refine step (v := .d (elaw16_Act x18)) rfl ?_
            refine step (v := .ptr 4 0 0) (σ' := (upd (stab [(0, .var [.loc 1 0 l5.length, .d (.int .i64 i6), .d (.int .i64 i7), .d (.int .i64 i8)]), (1, .lst true (some 3) (List.map eapi_Item l5)), (2, .lst false (some 3) (List.map eapi_Item l9)), (3, .lst false (some 3) (List.map eapi_Item l10))]) 4 (some (.var [.d (.int .i64 0), .d (.int .u16 0), .d (.str (⟨#[]⟩ : ByteArray)), .d (.int .i64 0)])))) (n' := 5) rfl ?_
            refine step (v := V.undef) (σ' := (upd (upd (stab [(0, .var [.loc 1 0 l5.length, .d (.int .i64 i6), .d (.int .i64 i7), .d (.int .i64 i8)]), (1, .lst true (some 3) (List.map eapi_Item l5)), (2, .lst false (some 3) (List.map eapi_Item l9)), (3, .lst false (some 3) (List.map eapi_Item l10))]) 4 (some (.var [.d (.int .i64 0), .d (.int .u16 0), .d (.str (⟨#[]⟩ : ByteArray)), .d (.int .i64 0)]))) 4 (some (.var [.d (.int .i64 x18.What), .d (.int .u16 x18.X.Pt), .d (.str x18.X.Raw), .d (.int .i64 x18.X.N)])))) (n' := 5) rfl ?_
            exact RunOps.nil' (Norm.mk [0, 1, 2, 3, 4] (by decide) (by decide) (by decide) ⟨.ptr 0 _ _ (show 0 < 5 by decide), .loc 2 _ _ (show 2 < 5 by decide), .loc 3 _ _ (show 3 < 5 by decide), .d _, .ptr 4 _ _ (show 4 < 5 by decide), .d _, .d _, .d _, trivial⟩ ⟨⟨show 0 < 5 by decide, _, rfl, .vars ⟨.loc 1 _ _ (show 1 < 5 by decide), .d _, .d _, .d _, trivial⟩⟩, ⟨show 1 < 5 by decide, _, rfl, .lst _ _ _⟩, ⟨show 2 < 5 by decide, _, rfl, .lst _ _ _⟩, ⟨show 3 < 5 by decide, _, rfl, .lst _ _ _⟩, ⟨show 4 < 5 by decide, _, rfl, .vars ⟨.d _, .d _, .d _, .d _, trivial⟩⟩, trivial⟩)
          refine NWp.seq ?_
          refine NWp.opsJ ⟨tab [(5, .ptr 0 0 0), (6, .loc 2 0 l9.length), (7, .loc 3 0 l10.length), (8, .d (.int .i64 i11)), (10, .ptr 4 0 0), (24, .d (eL (some 4) elaw16_Act a1)), (25, .d (.int .i64 (a1.length : Int))), (26, .d (.int .i64 i12)), (34, .d (.bool (decide ((x18.X.Raw.size : Int) > 100))))], stab [(0, .var [.loc 1 0 l5.length, .d (.int .i64 i6), .d (.int .i64 i7), .d (.int .i64 i8)]), (1, .lst true (some 3) (List.map eapi_Item l5)), (2, .lst false (some 3) (List.map eapi_Item l9)), (3, .lst false (some 3) (List.map eapi_Item l10)), (4, .var [.d (.int .i64 x18.What), .d (.int .u16 x18.X.Pt), .d (.str x18.X.Raw), .d (.int .i64 x18.X.N)])], 5⟩ ?_ ?_
          · refine step (v := .ptr 4 0 1) rfl ?_
            refine step (v := .ptr 4 0 2) rfl ?_
            refine step (v := .d (.str x18.X.Raw)) rfl ?_
            refine step (v := .d (.int .i64 (x18.X.Raw.size : Int))) rfl ?_
            refine step (v := .d (.bool (decide ((x18.X.Raw.size : Int) > 100)))) rfl ?_
            exact RunOps.nil' (Norm.mk [0, 1, 2, 3, 4] (by decide) (by decide) (by decide) ⟨.ptr 0 _ _ (show 0 < 5 by decide), .loc 2 _ _ (show 2 < 5 by decide), .loc 3 _ _ (show 3 < 5 by decide), .d _, .ptr 4 _ _ (show 4 < 5 by decide), .d _, .d _, .d _, .d _, trivial⟩ ⟨⟨show 0 < 5 by decide, _, rfl, .vars ⟨.loc 1 _ _ (show 1 < 5 by decide), .d _, .d _, .d _, trivial⟩⟩, ⟨show 1 < 5 by decide, _, rfl, .lst _ _ _⟩, ⟨show 2 < 5 by decide, _, rfl, .lst _ _ _⟩, ⟨show 3 < 5 by decide, _, rfl, .lst _ _ _⟩, ⟨show 4 < 5 by decide, _, rfl, .vars ⟨.d _, .d _, .d _, .d _, trivial⟩⟩, trivial⟩)
          by_cases hc19 : decide ((x18.X.Raw.size : Int) > 100) = true
          · replace h := iteT hc19 h
            refine NWp.condT (t := decide ((x18.X.Raw.size : Int) > 100)) rfl hc19 ?_
            refine NWp.opsJ ⟨tab [(4, .d (.bool true))], stab [], 0⟩ ?_ ?_
            · refine step (v := .d (.bool true)) rfl ?_
              exact RunOps.nil' (Norm.mk [] (by decide) (by decide) (by decide) ⟨.d _, trivial⟩ trivial)
            obtain ⟨r20, kr20, hr⟩ := mapE (o := some (Br.ret true)) (g := Sum.inr) h
            subst hr
            have h := kr20
            obtain ⟨r21, kr21, hr⟩ := mapE (o := some true) (g := Br.ret) h
            subst hr
            have h := kr21
            have hh := Option.some.inj h
            subst hh
            refine NWp.ret ?_
            refine And.intro (fun hn => nomatch hn) ?_
            intro hq
            have hq := hq.symm
            subst hq
            refine And.intro (fun hn => nomatch hn) ?_
            intro hq
            have hq := hq.symm
            subst hq
            show FQ _ _ _ _
            exact FQ.mk1 (.inr rfl) (res_t (v := .d (.bool true)) rfl rfl) (RV.d trivial)
          · replace h := iteF hc19 h
            refine NWp.condF (t := decide ((x18.X.Raw.size : Int) > 100)) rfl hc19 ?_
            refine NWp.skip ?_
            refine NWp.opsJ ⟨tab [(5, .ptr 0 0 0), (6, .loc 2 0 l9.length), (7, .loc 3 0 l10.length), (8, .d (.int .i64 i11)), (10, .ptr 4 0 0), (24, .d (eL (some 4) elaw16_Act a1)), (25, .d (.int .i64 (a1.length : Int))), (26, .d (.int .i64 i12)), (37, .d (.bool (x18.What == 0)))], stab [(0, .var [.loc 1 0 l5.length, .d (.int .i64 i6), .d (.int .i64 i7), .d (.int .i64 i8)]), (1, .lst true (some 3) (List.map eapi_Item l5)), (2, .lst false (some 3) (List.map eapi_Item l9)), (3, .lst false (some 3) (List.map eapi_Item l10)), (4, .var [.d (.int .i64 x18.What), .d (.int .u16 x18.X.Pt), .d (.str x18.X.Raw), .d (.int .i64 x18.X.N)])], 5⟩ ?_ ?_
            · refine step (v := .ptr 4 0 0) rfl ?_
              refine step (v := .d (.int .i64 x18.What)) rfl ?_
              refine step (v := .d (.bool (x18.What == 0))) rfl ?_
              exact RunOps.nil' (Norm.mk [0, 1, 2, 3, 4] (by decide) (by decide) (by decide) ⟨.ptr 0 _ _ (show 0 < 5 by decide), .loc 2 _ _ (show 2 < 5 by decide), .loc 3 _ _ (show 3 < 5 by decide), .d _, .ptr 4 _ _ (show 4 < 5 by decide), .d _, .d _, .d _, .d _, trivial⟩ ⟨⟨show 0 < 5 by decide, _, rfl, .vars ⟨.loc 1 _ _ (show 1 < 5 by decide), .d _, .d _, .d _, trivial⟩⟩, ⟨show 1 < 5 by decide, _, rfl, .lst _ _ _⟩, ⟨show 2 < 5 by decide, _, rfl, .lst _ _ _⟩, ⟨show 3 < 5 by decide, _, rfl, .lst _ _ _⟩, ⟨show 4 < 5 by decide, _, rfl, .vars ⟨.d _, .d _, .d _, .d _, trivial⟩⟩, trivial⟩)
            by_cases hc20 : (x18.What == 0) = true
            · replace h := iteT hc20 h
              refine NWp.condT (t := (x18.What == 0)) rfl hc20 ?_
              refine NWp.opsJ ⟨tab [(5, .ptr 0 0 0), (6, .loc 2 0 l9.length), (7, .loc 3 0 l10.length), (8, .d (.int .i64 (IntKind.i64.wrap (i11 + 1)))), (10, .ptr 4 0 0), (24, .d (eL (some 4) elaw16_Act a1)), (25, .d (.int .i64 (a1.length : Int))), (26, .d (.int .i64 i12))], stab [(0, .var [.loc 1 0 l5.length, .d (.int .i64 i6), .d (.int .i64 i7), .d (.int .i64 i8)]), (1, .lst true (some 3) (List.map eapi_Item l5)), (2, .lst false (some 3) (List.map eapi_Item l9)), (3, .lst false (some 3) (List.map eapi_Item l10)), (4, .var [.d (.int .i64 x18.What), .d (.int .u16 x18.X.Pt), .d (.str x18.X.Raw), .d (.int .i64 x18.X.N)])], 5⟩ ?_ ?_
              · refine step (v := .d (.int .i64 i11)) rfl ?_
                refine step (v := .d (.int .i64 (IntKind.i64.wrap (i11 + 1)))) rfl ?_
                refine step (v := .d (.int .i64 (IntKind.i64.wrap (i11 + 1)))) rfl ?_
                exact RunOps.nil' (Norm.mk [0, 1, 2, 3, 4] (by decide) (by decide) (by decide) ⟨.ptr 0 _ _ (show 0 < 5 by decide), .loc 2 _ _ (show 2 < 5 by decide), .loc 3 _ _ (show 3 < 5 by decide), .d _, .ptr 4 _ _ (show 4 < 5 by decide), .d _, .d _, .d _, trivial⟩ ⟨⟨show 0 < 5 by decide, _, rfl, .vars ⟨.loc 1 _ _ (show 1 < 5 by decide), .d _, .d _, .d _, trivial⟩⟩, ⟨show 1 < 5 by decide, _, rfl, .lst _ _ _⟩, ⟨show 2 < 5 by decide, _, rfl, .lst _ _ _⟩, ⟨show 3 < 5 by decide, _, rfl, .lst _ _ _⟩, ⟨show 4 < 5 by decide, _, rfl, .vars ⟨.d _, .d _, .d _, .d _, trivial⟩⟩, trivial⟩)
              obtain ⟨r21, hr21, h⟩ := bindE h
              refine NWp.opsJ ⟨tab [(5, .ptr 0 0 0), (6, .loc 2 0 l9.length), (7, .loc 3 0 l10.length), (8, .d (.int .i64 (IntKind.i64.wrap (i11 + 1)))), (10, .ptr 4 0 0), (24, .d (eL (some 4) elaw16_Act a1)), (25, .d (.int .i64 (a1.length : Int))), (26, .d (.int .i64 i12)), (44, .d (.bool (r21.1 == 0)))], stab [(0, .var [.loc 1 0 r21.2.ring.length, .d (.int .i64 r21.2.first), .d (.int .i64 r21.2.n_), .d (.int .i64 r21.2.lost)]), (1, .lst true (some 3) (List.map eapi_Item r21.2.ring)), (2, .lst false (some 3) (List.map eapi_Item l9)), (3, .lst false (some 3) (List.map eapi_Item l10)), (4, .var [.d (.int .i64 x18.What), .d (.int .u16 x18.X.Pt), .d (.str x18.X.Raw), .d (.int .i64 x18.X.N)])], 5⟩ ?_ ?_
              · refine step (v := .ptr 0 0 0) rfl ?_
                refine step (v := .ptr 4 0 1) rfl ?_
                refine step (v := .d (eapi_Item x18.X)) (st_ldV (ds := [.int .u16 x18.X.Pt, .str x18.X.Raw, .int .i64 x18.X.N]) rfl rfl (show 4 ≤ 4 by decide) rfl) ?_
                refine stepW (v := .d (.int .i64 r21.1)) (σ' := (upd (upd (upd (upd (stab [(0, .var [.loc 1 0 l5.length, .d (.int .i64 i6), .d (.int .i64 i7), .d (.int .i64 i8)]), (1, .lst true (some 3) (List.map eapi_Item l5)), (2, .lst false (some 3) (List.map eapi_Item l9)), (3, .lst false (some 3) (List.map eapi_Item l10)), (4, .var [.d (.int .i64 x18.What), .d (.int .u16 x18.X.Pt), .d (.str x18.X.Raw), .d (.int .i64 x18.X.N)])]) 1 none) 0 none) 1 (some (.lst true (some 3) (List.map eapi_Item r21.2.ring)))) 0 (some (.var [.loc 1 0 r21.2.ring.length, .d (.int .i64 r21.2.first), .d (.int .i64 r21.2.n_), .d (.int .i64 r21.2.lost)])))) (n' := 5) (SCall.lift [0, 1] (c_queue_Queue_Push hr21) (show 2 ≤ 2 by decide) (by decide) (show ∀ i ∈ [0, 1], i < 5 by decide) (dom_c (show 0 < 2 by decide) (dom_c (show 1 < 2 by decide) dom_n)) (VNs.c (.ptr 0 _ _ (show 0 < 2 by decide)) (VNs.c (.d _) VNs.nil0)) (SN.c (show 0 < 2 by decide) rfl (.vars (VNs.c (.loc 1 _ _ (show 1 < 2 by decide)) (VNs.c (.d _) (VNs.c (.d _) (VNs.c (.d _) VNs.nil0))))) (SN.c (show 1 < 2 by decide) rfl (.lst _ _ _) SN.nil0))) (show 5 ≤ 5 by decide) ?_
                refine step (v := .d (.bool (r21.1 == 0))) rfl ?_
                exact RunOps.nil' (Norm.mk [0, 1, 2, 3, 4] (by decide) (by decide) (by decide) ⟨.ptr 0 _ _ (show 0 < 5 by decide), .loc 2 _ _ (show 2 < 5 by decide), .loc 3 _ _ (show 3 < 5 by decide), .d _, .ptr 4 _ _ (show 4 < 5 by decide), .d _, .d _, .d _, .d _, trivial⟩ ⟨⟨show 0 < 5 by decide, _, rfl, .vars ⟨.loc 1 _ _ (show 1 < 5 by decide), .d _, .d _, .d _, trivial⟩⟩, ⟨show 1 < 5 by decide, _, rfl, .lst _ _ _⟩, ⟨show 2 < 5 by decide, _, rfl, .lst _ _ _⟩, ⟨show 3 < 5 by decide, _, rfl, .lst _ _ _⟩, ⟨show 4 < 5 by decide, _, rfl, .vars ⟨.d _, .d _, .d _, .d _, trivial⟩⟩, trivial⟩)
              by_cases hc22 : (r21.1 == 0) = true
              · replace h := iteT hc22 h
                refine NWp.condT (t := (r21.1 == 0)) rfl hc22 ?_
                obtain ⟨l23, hl23, h⟩ := bindE h
                have hh := Option.some.inj h
                subst hh
                refine NWp.opsE ⟨tab [(5, .ptr 0 0 0), (6, .loc 2 0 l23.length), (7, .loc 3 0 l10.length), (8, .d (.int .i64 (IntKind.i64.wrap (i11 + 1)))), (24, .d (eL (some 4) elaw16_Act a1)), (25, .d (.int .i64 (a1.length : Int))), (26, .d (.int .i64 i12))], stab [(0, .var [.loc 1 0 r21.2.ring.length, .d (.int .i64 r21.2.first), .d (.int .i64 r21.2.n_), .d (.int .i64 r21.2.lost)]), (1, .lst true (some 3) (List.map eapi_Item r21.2.ring)), (2, .lst false (some 3) (List.map eapi_Item l23)), (3, .lst false (some 3) (List.map eapi_Item l10))], 4⟩ ?_ ?_
                · refine step (v := .loc 2 0 l9.length) rfl ?_
                  refine step (v := .ptr 4 0 1) rfl ?_
                  refine step (v := .d (eapi_Item x18.X)) (st_ldV (ds := [.int .u16 x18.X.Pt, .str x18.X.Raw, .int .i64 x18.X.N]) rfl rfl (show 4 ≤ 4 by decide) rfl) ?_
                  refine step (v := .d (eL (some 3) eapi_Item ([x18.X] : List api_Item))) rfl ?_
                  refine step (v := .loc 5 0 l23.length) (σ' := (upd (upd (stab [(0, .var [.loc 1 0 r21.2.ring.length, .d (.int .i64 r21.2.first), .d (.int .i64 r21.2.n_), .d (.int .i64 r21.2.lost)]), (1, .lst true (some 3) (List.map eapi_Item r21.2.ring)), (2, .lst false (some 3) (List.map eapi_Item l9)), (3, .lst false (some 3) (List.map eapi_Item l10)), (4, .var [.d (.int .i64 x18.What), .d (.int .u16 x18.X.Pt), .d (.str x18.X.Raw), .d (.int .i64 x18.X.N)])]) 2 none) 5 (some (.lst false (some 3) (List.map eapi_Item l23))))) (n' := 6) (st_app (xs := l9) (ys := ([x18.X] : List api_Item)) (e := eapi_Item) hl23 rfl rfl rfl (src_v (xs := ([x18.X] : List api_Item)) (e := eapi_Item) rfl)) ?_
                  refine step (v := .loc 5 0 l23.length) rfl ?_
                  exact RunOps.nil' (Norm.mk [0, 1, 5, 3] (by decide) (by decide) (by decide) ⟨.ptr 0 _ _ (show 0 < 4 by decide), .loc 2 _ _ (show 2 < 4 by decide), .loc 3 _ _ (show 3 < 4 by decide), .d _, .d _, .d _, .d _, trivial⟩ ⟨⟨show 0 < 4 by decide, _, rfl, .vars ⟨.loc 1 _ _ (show 1 < 4 by decide), .d _, .d _, .d _, trivial⟩⟩, ⟨show 1 < 4 by decide, _, rfl, .lst _ _ _⟩, ⟨show 2 < 4 by decide, _, rfl, .lst _ _ _⟩, ⟨show 3 < 4 by decide, _, rfl, .lst _ _ _⟩, trivial⟩)
                exact And.intro rfl rfl
              · replace h := iteF hc22 h
                refine NWp.condF (t := (r21.1 == 0)) rfl hc22 ?_
                have hh := Option.some.inj h
                subst hh
                refine NWp.norm (s0 := ⟨tab [(5, .ptr 0 0 0), (6, .loc 2 0 l9.length), (7, .loc 3 0 l10.length), (8, .d (.int .i64 (IntKind.i64.wrap (i11 + 1)))), (24, .d (eL (some 4) elaw16_Act a1)), (25, .d (.int .i64 (a1.length : Int))), (26, .d (.int .i64 i12))], stab [(0, .var [.loc 1 0 r21.2.ring.length, .d (.int .i64 r21.2.first), .d (.int .i64 r21.2.n_), .d (.int .i64 r21.2.lost)]), (1, .lst true (some 3) (List.map eapi_Item r21.2.ring)), (2, .lst false (some 3) (List.map eapi_Item l9)), (3, .lst false (some 3) (List.map eapi_Item l10))], 4⟩) (Norm.mk [0, 1, 2, 3] (by decide) (by decide) (by decide) ⟨.ptr 0 _ _ (show 0 < 4 by decide), .loc 2 _ _ (show 2 < 4 by decide), .loc 3 _ _ (show 3 < 4 by decide), .d _, .d _, .d _, .d _, trivial⟩ ⟨⟨show 0 < 4 by decide, _, rfl, .vars ⟨.loc 1 _ _ (show 1 < 4 by decide), .d _, .d _, .d _, trivial⟩⟩, ⟨show 1 < 4 by decide, _, rfl, .lst _ _ _⟩, ⟨show 2 < 4 by decide, _, rfl, .lst _ _ _⟩, ⟨show 3 < 4 by decide, _, rfl, .lst _ _ _⟩, trivial⟩) ?_
                refine NWp.skip ?_
                exact And.intro rfl rfl
            · replace h := iteF hc20 h
              refine NWp.condF (t := (x18.What == 0)) rfl hc20 ?_
              obtain ⟨r24, hr24, h⟩ := bindE h
              refine NWp.opsJ ⟨tab [(5, .ptr 0 0 0), (6, .loc 2 0 l9.length), (7, .loc 3 0 l10.length), (8, .d (.int .i64 i11)), (11, .ptr 4 0 0), (12, .d (.bool r24.2.1)), (24, .d (eL (some 4) elaw16_Act a1)), (25, .d (.int .i64 (a1.length : Int))), (26, .d (.int .i64 i12))], stab [(0, .var [.loc 1 0 r24.2.2.ring.length, .d (.int .i64 r24.2.2.first), .d (.int .i64 r24.2.2.n_), .d (.int .i64 r24.2.2.lost)]), (1, .lst true (some 3) (List.map eapi_Item r24.2.2.ring)), (2, .lst false (some 3) (List.map eapi_Item l9)), (3, .lst false (some 3) (List.map eapi_Item l10)), (4, .var [.d (.int .u16 r24.1.Pt), .d (.str r24.1.Raw), .d (.int .i64 r24.1.N)])], 5⟩ ?_ ?_
              · refine step (v := .ptr 0 0 0) rfl ?_
                refine stepW (v := .d (.tup [eapi_Item r24.1, .bool r24.2.1])) (σ' := (upd (upd (upd (upd (stab [(0, .var [.loc 1 0 l5.length, .d (.int .i64 i6), .d (.int .i64 i7), .d (.int .i64 i8)]), (1, .lst true (some 3) (List.map eapi_Item l5)), (2, .lst false (some 3) (List.map eapi_Item l9)), (3, .lst false (some 3) (List.map eapi_Item l10)), (4, .var [.d (.int .i64 x18.What), .d (.int .u16 x18.X.Pt), .d (.str x18.X.Raw), .d (.int .i64 x18.X.N)])]) 1 none) 0 none) 1 (some (.lst true (some 3) (List.map eapi_Item r24.2.2.ring)))) 0 (some (.var [.loc 1 0 r24.2.2.ring.length, .d (.int .i64 r24.2.2.first), .d (.int .i64 r24.2.2.n_), .d (.int .i64 r24.2.2.lost)])))) (n' := 6) (SCall.lift [0, 1] (c_queue_Queue_Pop hr24) (show 2 ≤ 3 by decide) (by decide) (show ∀ i ∈ [0, 1], i < 5 by decide) (dom_c (show 0 < 3 by decide) (dom_c (show 1 < 3 by decide) dom_n)) (VNs.c (.ptr 0 _ _ (show 0 < 2 by decide)) VNs.nil0) (SN.c (show 0 < 2 by decide) rfl (.vars (VNs.c (.loc 1 _ _ (show 1 < 2 by decide)) (VNs.c (.d _) (VNs.c (.d _) (VNs.c (.d _) VNs.nil0))))) (SN.c (show 1 < 2 by decide) rfl (.lst _ _ _) SN.nil0))) (show 5 ≤ 6 by decide) ?_
                refine step (v := .d (.tup [eapi_Item r24.1, .bool r24.2.1])) rfl ?_
                refine step (v := .d (eapi_Item r24.1)) rfl ?_
                refine step (v := .d (.bool r24.2.1)) rfl ?_
                refine step (v := .ptr 6 0 0) (σ' := (upd (upd (upd (upd (upd (stab [(0, .var [.loc 1 0 l5.length, .d (.int .i64 i6), .d (.int .i64 i7), .d (.int .i64 i8)]), (1, .lst true (some 3) (List.map eapi_Item l5)), (2, .lst false (some 3) (List.map eapi_Item l9)), (3, .lst false (some 3) (List.map eapi_Item l10)), (4, .var [.d (.int .i64 x18.What), .d (.int .u16 x18.X.Pt), .d (.str x18.X.Raw), .d (.int .i64 x18.X.N)])]) 1 none) 0 none) 1 (some (.lst true (some 3) (List.map eapi_Item r24.2.2.ring)))) 0 (some (.var [.loc 1 0 r24.2.2.ring.length, .d (.int .i64 r24.2.2.first), .d (.int .i64 r24.2.2.n_), .d (.int .i64 r24.2.2.lost)]))) 6 (some (.var [.d (.int .u16 0), .d (.str (⟨#[]⟩ : ByteArray)), .d (.int .i64 0)])))) (n' := 7) rfl ?_
                refine step (v := V.undef) (σ' := (upd (upd (upd (upd (upd (upd (stab [(0, .var [.loc 1 0 l5.length, .d (.int .i64 i6), .d (.int .i64 i7), .d (.int .i64 i8)]), (1, .lst true (some 3) (List.map eapi_Item l5)), (2, .lst false (some 3) (List.map eapi_Item l9)), (3, .lst false (some 3) (List.map eapi_Item l10)), (4, .var [.d (.int .i64 x18.What), .d (.int .u16 x18.X.Pt), .d (.str x18.X.Raw), .d (.int .i64 x18.X.N)])]) 1 none) 0 none) 1 (some (.lst true (some 3) (List.map eapi_Item r24.2.2.ring)))) 0 (some (.var [.loc 1 0 r24.2.2.ring.length, .d (.int .i64 r24.2.2.first), .d (.int .i64 r24.2.2.n_), .d (.int .i64 r24.2.2.lost)]))) 6 (some (.var [.d (.int .u16 0), .d (.str (⟨#[]⟩ : ByteArray)), .d (.int .i64 0)]))) 6 (some (.var [.d (.int .u16 r24.1.Pt), .d (.str r24.1.Raw), .d (.int .i64 r24.1.N)])))) (n' := 7) rfl ?_
                refine step (v := .d (.bool r24.2.1)) rfl ?_
                exact RunOps.nil' (Norm.mk [0, 1, 2, 3, 6] (by decide) (by decide) (by decide) ⟨.ptr 0 _ _ (show 0 < 5 by decide), .loc 2 _ _ (show 2 < 5 by decide), .loc 3 _ _ (show 3 < 5 by decide), .d _, .ptr 4 _ _ (show 4 < 5 by decide), .d _, .d _, .d _, .d _, trivial⟩ ⟨⟨show 0 < 5 by decide, _, rfl, .vars ⟨.loc 1 _ _ (show 1 < 5 by decide), .d _, .d _, .d _, trivial⟩⟩, ⟨show 1 < 5 by decide, _, rfl, .lst _ _ _⟩, ⟨show 2 < 5 by decide, _, rfl, .lst _ _ _⟩, ⟨show 3 < 5 by decide, _, rfl, .lst _ _ _⟩, ⟨show 4 < 5 by decide, _, rfl, .vars ⟨.d _, .d _, .d _, trivial⟩⟩, trivial⟩)
              refine NWp.opsJ ⟨tab [(5, .ptr 0 0 0), (6, .loc 2 0 l9.length), (7, .loc 3 0 l10.length), (8, .d (.int .i64 i11)), (11, .ptr 4 0 0), (24, .d (eL (some 4) elaw16_Act a1)), (25, .d (.int .i64 (a1.length : Int))), (26, .d (.int .i64 i12)), (55, .d (.bool r24.2.1))], stab [(0, .var [.loc 1 0 r24.2.2.ring.length, .d (.int .i64 r24.2.2.first), .d (.int .i64 r24.2.2.n_), .d (.int .i64 r24.2.2.lost)]), (1, .lst true (some 3) (List.map eapi_Item r24.2.2.ring)), (2, .lst false (some 3) (List.map eapi_Item l9)), (3, .lst false (some 3) (List.map eapi_Item l10)), (4, .var [.d (.int .u16 r24.1.Pt), .d (.str r24.1.Raw), .d (.int .i64 r24.1.N)])], 5⟩ ?_ ?_
              · refine step (v := .d (.bool r24.2.1)) rfl ?_
                exact RunOps.nil' (Norm.mk [0, 1, 2, 3, 4] (by decide) (by decide) (by decide) ⟨.ptr 0 _ _ (show 0 < 5 by decide), .loc 2 _ _ (show 2 < 5 by decide), .loc 3 _ _ (show 3 < 5 by decide), .d _, .ptr 4 _ _ (show 4 < 5 by decide), .d _, .d _, .d _, .d _, trivial⟩ ⟨⟨show 0 < 5 by decide, _, rfl, .vars ⟨.loc 1 _ _ (show 1 < 5 by decide), .d _, .d _, .d _, trivial⟩⟩, ⟨show 1 < 5 by decide, _, rfl, .lst _ _ _⟩, ⟨show 2 < 5 by decide, _, rfl, .lst _ _ _⟩, ⟨show 3 < 5 by decide, _, rfl, .lst _ _ _⟩, ⟨show 4 < 5 by decide, _, rfl, .vars ⟨.d _, .d _, .d _, trivial⟩⟩, trivial⟩)
              by_cases hc25 : r24.2.1 = true
              · replace h := iteT hc25 h
                refine NWp.condT (t := r24.2.1) rfl hc25 ?_
                obtain ⟨l26, hl26, h⟩ := bindE h
                have hh := Option.some.inj h
                subst hh
                refine NWp.opsE ⟨tab [(5, .ptr 0 0 0), (6, .loc 2 0 l9.length), (7, .loc 3 0 l26.length), (8, .d (.int .i64 i11)), (24, .d (eL (some 4) elaw16_Act a1)), (25, .d (.int .i64 (a1.length : Int))), (26, .d (.int .i64 i12))], stab [(0, .var [.loc 1 0 r24.2.2.ring.length, .d (.int .i64 r24.2.2.first), .d (.int .i64 r24.2.2.n_), .d (.int .i64 r24.2.2.lost)]), (1, .lst true (some 3) (List.map eapi_Item r24.2.2.ring)), (2, .lst false (some 3) (List.map eapi_Item l9)), (3, .lst false (some 3) (List.map eapi_Item l26))], 4⟩ ?_ ?_
                · refine step (v := .loc 3 0 l10.length) rfl ?_
                  refine step (v := .d (eapi_Item r24.1)) (st_ldV (ds := [.int .u16 r24.1.Pt, .str r24.1.Raw, .int .i64 r24.1.N]) rfl rfl (show 3 ≤ 3 by decide) rfl) ?_
                  refine step (v := .d (eL (some 3) eapi_Item ([r24.1] : List api_Item))) rfl ?_
                  refine step (v := .loc 5 0 l26.length) (σ' := (upd (upd (stab [(0, .var [.loc 1 0 r24.2.2.ring.length, .d (.int .i64 r24.2.2.first), .d (.int .i64 r24.2.2.n_), .d (.int .i64 r24.2.2.lost)]), (1, .lst true (some 3) (List.map eapi_Item r24.2.2.ring)), (2, .lst false (some 3) (List.map eapi_Item l9)), (3, .lst false (some 3) (List.map eapi_Item l10)), (4, .var [.d (.int .u16 r24.1.Pt), .d (.str r24.1.Raw), .d (.int .i64 r24.1.N)])]) 3 none) 5 (some (.lst false (some 3) (List.map eapi_Item l26))))) (n' := 6) (st_app (xs := l10) (ys := ([r24.1] : List api_Item)) (e := eapi_Item) hl26 rfl rfl rfl (src_v (xs := ([r24.1] : List api_Item)) (e := eapi_Item) rfl)) ?_
                  refine step (v := .loc 5 0 l26.length) rfl ?_
                  exact RunOps.nil' (Norm.mk [0, 1, 2, 5] (by decide) (by decide) (by decide) ⟨.ptr 0 _ _ (show 0 < 4 by decide), .loc 2 _ _ (show 2 < 4 by decide), .loc 3 _ _ (show 3 < 4 by decide), .d _, .d _, .d _, .d _, trivial⟩ ⟨⟨show 0 < 4 by decide, _, rfl, .vars ⟨.loc 1 _ _ (show 1 < 4 by decide), .d _, .d _, .d _, trivial⟩⟩, ⟨show 1 < 4 by decide, _, rfl, .lst _ _ _⟩, ⟨show 2 < 4 by decide, _, rfl, .lst _ _ _⟩, ⟨show 3 < 4 by decide, _, rfl, .lst _ _ _⟩, trivial⟩)
                exact And.intro rfl rfl
              · replace h := iteF hc25 h
                refine NWp.condF (t := r24.2.1) rfl hc25 ?_
                have hh := Option.some.inj h
                subst hh
                refine NWp.norm (s0 := ⟨tab [(5, .ptr 0 0 0), (6, .loc 2 0 l9.length), (7, .loc 3 0 l10.length), (8, .d (.int .i64 i11)), (24, .d (eL (some 4) elaw16_Act a1)), (25, .d (.int .i64 (a1.length : Int))), (26, .d (.int .i64 i12))], stab [(0, .var [.loc 1 0 r24.2.2.ring.length, .d (.int .i64 r24.2.2.first), .d (.int .i64 r24.2.2.n_), .d (.int .i64 r24.2.2.lost)]), (1, .lst true (some 3) (List.map eapi_Item r24.2.2.ring)), (2, .lst false (some 3) (List.map eapi_Item l9)), (3, .lst false (some 3) (List.map eapi_Item l10))], 4⟩) (Norm.mk [0, 1, 2, 3] (by decide) (by decide) (by decide) ⟨.ptr 0 _ _ (show 0 < 4 by decide), .loc 2 _ _ (show 2 < 4 by decide), .loc 3 _ _ (show 3 < 4 by decide), .d _, .d _, .d _, .d _, trivial⟩ ⟨⟨show 0 < 4 by decide, _, rfl, .vars ⟨.loc 1 _ _ (show 1 < 4 by decide), .d _, .d _, .d _, trivial⟩⟩, ⟨show 1 < 4 by decide, _, rfl, .lst _ _ _⟩, ⟨show 2 < 4 by decide, _, rfl, .lst _ _ _⟩, ⟨show 3 < 4 by decide, _, rfl, .lst _ _ _⟩, trivial⟩) ?_
                refine NWp.skip ?_
                exact And.intro rfl rfl
        · intro r' hq
          subst hq
          exact Option.some.inj h
        rintro ⟨l27, y28, y29, y30, l31, l32, y33⟩ rfl
        show NWp _ _ _ _ _ ⟨tab [(5, .ptr 0 0 0), (6, .loc 2 0 l31.length), (7, .loc 3 0 l32.length), (8, .d (.int .i64 y33)), (24, .d (eL (some 4) elaw16_Act a1)), (25, .d (.int .i64 (a1.length : Int))), (26, .d (.int .i64 i12))], stab [(0, .var [.loc 1 0 l27.length, .d (.int .i64 y28), .d (.int .i64 y29), .d (.int .i64 y30)]), (1, .lst true (some 3) (List.map eapi_Item l27)), (2, .lst false (some 3) (List.map eapi_Item l31)), (3, .lst false (some 3) (List.map eapi_Item l32))], 4⟩
        have hh := Option.some.inj h
        subst hh
        refine NWp.opsE ⟨tab [(5, .ptr 0 0 0), (6, .loc 2 0 l31.length), (7, .loc 3 0 l32.length), (8, .d (.int .i64 y33)), (24, .d (eL (some 4) elaw16_Act a1)), (25, .d (.int .i64 (a1.length : Int))), (26, .d (.int .i64 (i12 + 1)))], stab [(0, .var [.loc 1 0 l27.length, .d (.int .i64 y28), .d (.int .i64 y29), .d (.int .i64 y30)]), (1, .lst true (some 3) (List.map eapi_Item l27)), (2, .lst false (some 3) (List.map eapi_Item l31)), (3, .lst false (some 3) (List.map eapi_Item l32))], 4⟩ ?_ ?_
        · refine step (v := .d (.int .i64 (i12 + 1))) (st_inc (inc_ok hinv15 hgo14 hB13) rfl rfl) ?_
          refine step (v := .d (.int .i64 (i12 + 1))) rfl ?_
          exact RunOps.nil' (Norm.mk [0, 1, 2, 3] (by decide) (by decide) (by decide) ⟨.ptr 0 _ _ (show 0 < 4 by decide), .loc 2 _ _ (show 2 < 4 by decide), .loc 3 _ _ (show 3 < 4 by decide), .d _, .d _, .d _, .d _, trivial⟩ ⟨⟨show 0 < 4 by decide, _, rfl, .vars ⟨.loc 1 _ _ (show 1 < 4 by decide), .d _, .d _, .d _, trivial⟩⟩, ⟨show 1 < 4 by decide, _, rfl, .lst _ _ _⟩, ⟨show 2 < 4 by decide, _, rfl, .lst _ _ _⟩, ⟨show 3 < 4 by decide, _, rfl, .lst _ _ _⟩, trivial⟩)
        exact And.intro rfl rfl
      · rintro i12 ⟨l5, i6, i7, i8, l9, l10, i11⟩ hinv15 hgo14
        show NWp _ _ _ _ _ ⟨tab [(5, .ptr 0 0 0), (6, .loc 2 0 l9.length), (7, .loc 3 0 l10.length), (8, .d (.int .i64 i11)), (24, .d (eL (some 4) elaw16_Act a1)), (25, .d (.int .i64 (a1.length : Int))), (26, .d (.int .i64 i12))], stab [(0, .var [.loc 1 0 l5.length, .d (.int .i64 i6), .d (.int .i64 i7), .d (.int .i64 i8)]), (1, .lst true (some 3) (List.map eapi_Item l5)), (2, .lst false (some 3) (List.map eapi_Item l9)), (3, .lst false (some 3) (List.map eapi_Item l10))], 4⟩
        have hc16 : ¬ (decide (i12 < (a1.length : Int)) = true) := fun hq => hgo14 (of_decide_eq_true hq)
        refine NWp.opsJ ⟨tab [(5, .ptr 0 0 0), (6, .loc 2 0 l9.length), (7, .loc 3 0 l10.length), (8, .d (.int .i64 i11)), (24, .d (eL (some 4) elaw16_Act a1)), (25, .d (.int .i64 (a1.length : Int))), (26, .d (.int .i64 i12)), (27, .d (.bool (decide (i12 < (a1.length : Int)))))], stab [(0, .var [.loc 1 0 l5.length, .d (.int .i64 i6), .d (.int .i64 i7), .d (.int .i64 i8)]), (1, .lst true (some 3) (List.map eapi_Item l5)), (2, .lst false (some 3) (List.map eapi_Item l9)), (3, .lst false (some 3) (List.map eapi_Item l10))], 4⟩ ?_ ?_
        · refine step (v := .d (.bool (decide (i12 < (a1.length : Int))))) rfl ?_
          exact RunOps.nil' (Norm.mk [0, 1, 2, 3] (by decide) (by decide) (by decide) ⟨.ptr 0 _ _ (show 0 < 4 by decide), .loc 2 _ _ (show 2 < 4 by decide), .loc 3 _ _ (show 3 < 4 by decide), .d _, .d _, .d _, .d _, .d _, trivial⟩ ⟨⟨show 0 < 4 by decide, _, rfl, .vars ⟨.loc 1 _ _ (show 1 < 4 by decide), .d _, .d _, .d _, trivial⟩⟩, ⟨show 1 < 4 by decide, _, rfl, .lst _ _ _⟩, ⟨show 2 < 4 by decide, _, rfl, .lst _ _ _⟩, ⟨show 3 < 4 by decide, _, rfl, .lst _ _ _⟩, trivial⟩)
        refine NWp.seq ?_
        refine NWp.condF (t := decide (i12 < (a1.length : Int))) rfl hc16 ?_
        refine NWp.norm (s0 := ⟨tab [(5, .ptr 0 0 0), (6, .loc 2 0 l9.length), (7, .loc 3 0 l10.length), (8, .d (.int .i64 i11))], stab [(0, .var [.loc 1 0 l5.length, .d (.int .i64 i6), .d (.int .i64 i7), .d (.int .i64 i8)]), (1, .lst true (some 3) (List.map eapi_Item l5)), (2, .lst false (some 3) (List.map eapi_Item l9)), (3, .lst false (some 3) (List.map eapi_Item l10))], 4⟩) (Norm.mk [0, 1, 2, 3] (by decide) (by decide) (by decide) ⟨.ptr 0 _ _ (show 0 < 4 by decide), .loc 2 _ _ (show 2 < 4 by decide), .loc 3 _ _ (show 3 < 4 by decide), .d _, trivial⟩ ⟨⟨show 0 < 4 by decide, _, rfl, .vars ⟨.loc 1 _ _ (show 1 < 4 by decide), .d _, .d _, .d _, trivial⟩⟩, ⟨show 1 < 4 by decide, _, rfl, .lst _ _ _⟩, ⟨show 2 < 4 by decide, _, rfl, .lst _ _ _⟩, ⟨show 3 < 4 by decide, _, rfl, .lst _ _ _⟩, trivial⟩) ?_
        refine NWp.exit ?_
        exact And.intro rfl rfl
      · intro r' hq
        subst hq
        exact Option.some.inj h
      rintro ⟨z35, z36, z37, z38, z39, z40, z41⟩ rfl
      refine NWp.seq ?_
      obtain ⟨r42, hr42, h⟩ := bindE h
      obtain ⟨r43, hr43, h⟩ := bindE h
      refine NWp.opsJ ⟨tab [(5, .ptr 0 0 0), (6, .loc 2 0 z39.length), (7, .loc 3 0 z40.length), (85, .d (.bool ((z41 != (IntKind.i64.wrap ((IntKind.i64.wrap ((z40.length : Int) + r42)) + r43))) || (((z39.length : Int) != (IntKind.i64.wrap ((z40.length : Int) + r42))) || (decide (r42 > 64))))))], stab [(0, .var [.loc 1 0 z35.length, .d (.int .i64 z36), .d (.int .i64 z37), .d (.int .i64 z38)]), (1, .lst true (some 3) (List.map eapi_Item z35)), (2, .lst false (some 3) (List.map eapi_Item z39)), (3, .lst false (some 3) (List.map eapi_Item z40))], 4⟩ ?_ ?_
      · refine step (v := .d (.int .i64 z41)) rfl ?_
        refine step (v := .loc 3 0 z40.length) rfl ?_
        refine step (v := .d (.int .i64 (z40.length : Int))) rfl ?_
        refine step (v := .ptr 0 0 0) rfl ?_
        refine stepW (v := .d (.int .i64 r42)) (σ' := _) (n' := _) (PCall.borrow (c_queue_Queue_Len hr42) rfl (ViewsB.c (viewB_var rfl (ViewsB.c (viewB_all (xs := z35) (e := eapi_Item) rfl rfl) (ViewsB.c (.d _) (ViewsB.c (.d _) (ViewsB.c (.d _) ViewsB.nil0))))) ViewsB.nil0)) (Nat.le_refl _) ?_
        refine step (v := .d (.int .i64 (IntKind.i64.wrap ((z40.length : Int) + r42)))) rfl ?_
        refine step (v := .ptr 0 0 0) rfl ?_
        refine stepW (v := .d (.int .i64 r43)) (σ' := _) (n' := _) (PCall.borrow (c_queue_Queue_Lost hr43) rfl (ViewsB.c (viewB_var rfl (ViewsB.c (viewB_all (xs := z35) (e := eapi_Item) rfl rfl) (ViewsB.c (.d _) (ViewsB.c (.d _) (ViewsB.c (.d _) ViewsB.nil0))))) ViewsB.nil0)) (Nat.le_refl _) ?_
        refine step (v := .d (.int .i64 (IntKind.i64.wrap ((IntKind.i64.wrap ((z40.length : Int) + r42)) + r43)))) rfl ?_
        refine step (v := .d (.bool (z41 != (IntKind.i64.wrap ((IntKind.i64.wrap ((z40.length : Int) + r42)) + r43))))) rfl ?_
        refine step (v := .d (.bool (z41 != (IntKind.i64.wrap ((IntKind.i64.wrap ((z40.length : Int) + r42)) + r43))))) rfl ?_
        by_cases hg44 : (z41 != (IntKind.i64.wrap ((IntKind.i64.wrap ((z40.length : Int) + r42)) + r43))) = true
        · refine stepX (c := (z41 != (IntKind.i64.wrap ((IntKind.i64.wrap ((z40.length : Int) + r42)) + r43)))) rfl (by rw [hg44]; decide) ?_
          refine stepX (c := (z41 != (IntKind.i64.wrap ((IntKind.i64.wrap ((z40.length : Int) + r42)) + r43)))) rfl (by rw [hg44]; decide) ?_
          refine stepX (c := (z41 != (IntKind.i64.wrap ((IntKind.i64.wrap ((z40.length : Int) + r42)) + r43)))) rfl (by rw [hg44]; decide) ?_
          refine stepX (c := (z41 != (IntKind.i64.wrap ((IntKind.i64.wrap ((z40.length : Int) + r42)) + r43)))) rfl (by rw [hg44]; decide) ?_
          refine stepX (c := (z41 != (IntKind.i64.wrap ((IntKind.i64.wrap ((z40.length : Int) + r42)) + r43)))) rfl (by rw [hg44]; decide) ?_
          refine stepX (c := (z41 != (IntKind.i64.wrap ((IntKind.i64.wrap ((z40.length : Int) + r42)) + r43)))) rfl (by rw [hg44]; decide) ?_
          refine stepX (c := (z41 != (IntKind.i64.wrap ((IntKind.i64.wrap ((z40.length : Int) + r42)) + r43)))) rfl (by rw [hg44]; decide) ?_
          refine stepX (c := (z41 != (IntKind.i64.wrap ((IntKind.i64.wrap ((z40.length : Int) + r42)) + r43)))) rfl (by rw [hg44]; decide) ?_
          refine step (v := .d (.bool true)) (st_pickT (b := (z41 != (IntKind.i64.wrap ((IntKind.i64.wrap ((z40.length : Int) + r42)) + r43)))) rfl hg44 rfl) ?_
          refine step (v := .d (.bool true)) rfl ?_
          refine stepX (c := true) rfl (by decide) ?_
          refine stepX (c := true) rfl (by decide) ?_
          refine stepX (c := true) rfl (by decide) ?_
          refine step (v := .d (.bool true)) (st_pickT (b := true) rfl rfl rfl) ?_
          exact RunOps.nil' (Norm.mk [0, 1, 2, 3] (by decide) (by decide) (by decide) ⟨.ptr 0 _ _ (show 0 < 4 by decide), .loc 2 _ _ (show 2 < 4 by decide), .loc 3 _ _ (show 3 < 4 by decide), .eq (by simp [hg44]), trivial⟩ ⟨⟨show 0 < 4 by decide, _, rfl, .vars ⟨.loc 1 _ _ (show 1 < 4 by decide), .d _, .d _, .d _, trivial⟩⟩, ⟨show 1 < 4 by decide, _, rfl, .lst _ _ _⟩, ⟨show 2 < 4 by decide, _, rfl, .lst _ _ _⟩, ⟨show 3 < 4 by decide, _, rfl, .lst _ _ _⟩, trivial⟩)
        · refine stepG (c := (z41 != (IntKind.i64.wrap ((IntKind.i64.wrap ((z40.length : Int) + r42)) + r43)))) rfl (Bool.eq_false_iff.2 hg44) ?_
          refine step (v := .loc 2 0 z39.length) rfl ?_
          refine stepG (c := (z41 != (IntKind.i64.wrap ((IntKind.i64.wrap ((z40.length : Int) + r42)) + r43)))) rfl (Bool.eq_false_iff.2 hg44) ?_
          refine step (v := .d (.int .i64 (z39.length : Int))) rfl ?_
          refine stepG (c := (z41 != (IntKind.i64.wrap ((IntKind.i64.wrap ((z40.length : Int) + r42)) + r43)))) rfl (Bool.eq_false_iff.2 hg44) ?_
          refine step (v := .loc 3 0 z40.length) rfl ?_
          refine stepG (c := (z41 != (IntKind.i64.wrap ((IntKind.i64.wrap ((z40.length : Int) + r42)) + r43)))) rfl (Bool.eq_false_iff.2 hg44) ?_
          refine step (v := .d (.int .i64 (z40.length : Int))) rfl ?_
          refine stepG (c := (z41 != (IntKind.i64.wrap ((IntKind.i64.wrap ((z40.length : Int) + r42)) + r43)))) rfl (Bool.eq_false_iff.2 hg44) ?_
          refine step (v := .ptr 0 0 0) rfl ?_
          refine stepG (c := (z41 != (IntKind.i64.wrap ((IntKind.i64.wrap ((z40.length : Int) + r42)) + r43)))) rfl (Bool.eq_false_iff.2 hg44) ?_
          refine stepW (v := .d (.int .i64 r42)) (σ' := _) (n' := _) (PCall.borrow (c_queue_Queue_Len hr42) rfl (ViewsB.c (viewB_var rfl (ViewsB.c (viewB_all (xs := z35) (e := eapi_Item) rfl rfl) (ViewsB.c (.d _) (ViewsB.c (.d _) (ViewsB.c (.d _) ViewsB.nil0))))) ViewsB.nil0)) (Nat.le_refl _) ?_
          refine stepG (c := (z41 != (IntKind.i64.wrap ((IntKind.i64.wrap ((z40.length : Int) + r42)) + r43)))) rfl (Bool.eq_false_iff.2 hg44) ?_
          refine step (v := .d (.int .i64 (IntKind.i64.wrap ((z40.length : Int) + r42)))) rfl ?_
          refine stepG (c := (z41 != (IntKind.i64.wrap ((IntKind.i64.wrap ((z40.length : Int) + r42)) + r43)))) rfl (Bool.eq_false_iff.2 hg44) ?_
          refine step (v := .d (.bool ((z39.length : Int) != (IntKind.i64.wrap ((z40.length : Int) + r42))))) rfl ?_
          refine step (v := .d (.bool ((z39.length : Int) != (IntKind.i64.wrap ((z40.length : Int) + r42))))) (st_pickF (b := (z41 != (IntKind.i64.wrap ((IntKind.i64.wrap ((z40.length : Int) + r42)) + r43)))) rfl hg44 rfl) ?_
          refine step (v := .d (.bool ((z39.length : Int) != (IntKind.i64.wrap ((z40.length : Int) + r42))))) rfl ?_
          by_cases hg45 : ((z39.length : Int) != (IntKind.i64.wrap ((z40.length : Int) + r42))) = true
          · refine stepX (c := ((z39.length : Int) != (IntKind.i64.wrap ((z40.length : Int) + r42)))) rfl (by rw [hg45]; decide) ?_
            refine stepX (c := ((z39.length : Int) != (IntKind.i64.wrap ((z40.length : Int) + r42)))) rfl (by rw [hg45]; decide) ?_
            refine stepX (c := ((z39.length : Int) != (IntKind.i64.wrap ((z40.length : Int) + r42)))) rfl (by rw [hg45]; decide) ?_
            refine step (v := .d (.bool true)) (st_pickT (b := ((z39.length : Int) != (IntKind.i64.wrap ((z40.length : Int) + r42)))) rfl hg45 rfl) ?_
            exact RunOps.nil' (Norm.mk [0, 1, 2, 3] (by decide) (by decide) (by decide) ⟨.ptr 0 _ _ (show 0 < 4 by decide), .loc 2 _ _ (show 2 < 4 by decide), .loc 3 _ _ (show 3 < 4 by decide), .eq (by simp [hg44, hg45]), trivial⟩ ⟨⟨show 0 < 4 by decide, _, rfl, .vars ⟨.loc 1 _ _ (show 1 < 4 by decide), .d _, .d _, .d _, trivial⟩⟩, ⟨show 1 < 4 by decide, _, rfl, .lst _ _ _⟩, ⟨show 2 < 4 by decide, _, rfl, .lst _ _ _⟩, ⟨show 3 < 4 by decide, _, rfl, .lst _ _ _⟩, trivial⟩)
          · refine stepG (c := ((z39.length : Int) != (IntKind.i64.wrap ((z40.length : Int) + r42)))) rfl (Bool.eq_false_iff.2 hg45) ?_
            refine step (v := .ptr 0 0 0) rfl ?_
            refine stepG (c := ((z39.length : Int) != (IntKind.i64.wrap ((z40.length : Int) + r42)))) rfl (Bool.eq_false_iff.2 hg45) ?_
            refine stepW (v := .d (.int .i64 r42)) (σ' := _) (n' := _) (PCall.borrow (c_queue_Queue_Len hr42) rfl (ViewsB.c (viewB_var rfl (ViewsB.c (viewB_all (xs := z35) (e := eapi_Item) rfl rfl) (ViewsB.c (.d _) (ViewsB.c (.d _) (ViewsB.c (.d _) ViewsB.nil0))))) ViewsB.nil0)) (Nat.le_refl _) ?_
            refine stepG (c := ((z39.length : Int) != (IntKind.i64.wrap ((z40.length : Int) + r42)))) rfl (Bool.eq_false_iff.2 hg45) ?_
            refine step (v := .d (.bool (decide (r42 > 64)))) rfl ?_
            refine step (v := .d (.bool (decide (r42 > 64)))) (st_pickF (b := ((z39.length : Int) != (IntKind.i64.wrap ((z40.length : Int) + r42)))) rfl hg45 rfl) ?_
            exact RunOps.nil' (Norm.mk [0, 1, 2, 3] (by decide) (by decide) (by decide) ⟨.ptr 0 _ _ (show 0 < 4 by decide), .loc 2 _ _ (show 2 < 4 by decide), .loc 3 _ _ (show 3 < 4 by decide), .eq (by simp [hg44, hg45]), trivial⟩ ⟨⟨show 0 < 4 by decide, _, rfl, .vars ⟨.loc 1 _ _ (show 1 < 4 by decide), .d _, .d _, .d _, trivial⟩⟩, ⟨show 1 < 4 by decide, _, rfl, .lst _ _ _⟩, ⟨show 2 < 4 by decide, _, rfl, .lst _ _ _⟩, ⟨show 3 < 4 by decide, _, rfl, .lst _ _ _⟩, trivial⟩)
      by_cases hc46 : ((z41 != (IntKind.i64.wrap ((IntKind.i64.wrap ((z40.length : Int) + r42)) + r43))) || (((z39.length : Int) != (IntKind.i64.wrap ((z40.length : Int) + r42))) || (decide (r42 > 64)))) = true
      · replace h := iteT hc46 h
        refine NWp.condT (t := ((z41 != (IntKind.i64.wrap ((IntKind.i64.wrap ((z40.length : Int) + r42)) + r43))) || (((z39.length : Int) != (IntKind.i64.wrap ((z40.length : Int) + r42))) || (decide (r42 > 64))))) rfl hc46 ?_
        refine NWp.opsJ ⟨tab [(4, .d (.bool false))], stab [], 0⟩ ?_ ?_
        · refine step (v := .d (.bool false)) rfl ?_
          exact RunOps.nil' (Norm.mk [] (by decide) (by decide) (by decide) ⟨.d _, trivial⟩ trivial)
        have hh := Option.some.inj h
        subst hh
        refine NWp.ret ?_
        show FQ _ _ _ _
        exact FQ.mk1 (.inr rfl) (res_t (v := .d (.bool false)) rfl rfl) (RV.d trivial)
      · replace h := iteF hc46 h
        refine NWp.condF (t := ((z41 != (IntKind.i64.wrap ((IntKind.i64.wrap ((z40.length : Int) + r42)) + r43))) || (((z39.length : Int) != (IntKind.i64.wrap ((z40.length : Int) + r42))) || (decide (r42 > 64))))) rfl hc46 ?_
        refine NWp.skip ?_
        refine NWp.seq ?_
        refine NWp.opsJ ⟨tab [(5, .ptr 0 0 0), (7, .loc 2 0 z40.length), (86, .loc 3 0 z39.length), (87, .d (.int .i64 (z39.length : Int))), (88, .d (.int .i64 0))], stab [(0, .var [.loc 1 0 z35.length, .d (.int .i64 z36), .d (.int .i64 z37), .d (.int .i64 z38)]), (1, .lst true (some 3) (List.map eapi_Item z35)), (2, .lst false (some 3) (List.map eapi_Item z40)), (3, .lst false (some 3) (List.map eapi_Item z39))], 4⟩ ?_ ?_
        · refine step (v := .loc 2 0 z39.length) rfl ?_
          refine step (v := .d (.int .i64 (z39.length : Int))) rfl ?_
          refine step (v := .d (.int .i64 0)) rfl ?_
          exact RunOps.nil' (Norm.mk [0, 1, 3, 2] (by decide) (by decide) (by decide) ⟨.ptr 0 _ _ (show 0 < 4 by decide), .loc 2 _ _ (show 2 < 4 by decide), .loc 3 _ _ (show 3 < 4 by decide), .d _, .d _, trivial⟩ ⟨⟨show 0 < 4 by decide, _, rfl, .vars ⟨.loc 1 _ _ (show 1 < 4 by decide), .d _, .d _, .d _, trivial⟩⟩, ⟨show 1 < 4 by decide, _, rfl, .lst _ _ _⟩, ⟨show 2 < 4 by decide, _, rfl, .lst _ _ _⟩, ⟨show 3 < 4 by decide, _, rfl, .lst _ _ _⟩, trivial⟩)
        obtain ⟨q63, hl, h⟩ := bindE h
        refine NWp.block ?_
        refine loop_forR (cntU (z39.length : Int)) (fun (i47 : Int) (qq : Unit) => ⟨tab [(5, .ptr 0 0 0), (7, .loc 2 0 z40.length), (86, .loc 3 0 z39.length), (87, .d (.int .i64 (z39.length : Int))), (88, .d (.int .i64 i47))], stab [(0, .var [.loc 1 0 z35.length, .d (.int .i64 z36), .d (.int .i64 z37), .d (.int .i64 z38)]), (1, .lst true (some 3) (List.map eapi_Item z35)), (2, .lst false (some 3) (List.map eapi_Item z40)), (3, .lst false (some 3) (List.map eapi_Item z39))], 4⟩) 2 (fun (qq : Unit) => ⟨tab [], stab [], 0⟩) Low low_step (r := r) hl (by unfold Low; omega) ?_ ?_ ?_ ?_
        · rintro i47 ⟨⟩ xr52 hinv50 hgo49 h
          show NWp _ _ _ _ _ ⟨tab [(5, .ptr 0 0 0), (7, .loc 2 0 z40.length), (86, .loc 3 0 z39.length), (87, .d (.int .i64 (z39.length : Int))), (88, .d (.int .i64 i47))], stab [(0, .var [.loc 1 0 z35.length, .d (.int .i64 z36), .d (.int .i64 z37), .d (.int .i64 z38)]), (1, .lst true (some 3) (List.map eapi_Item z35)), (2, .lst false (some 3) (List.map eapi_Item z40)), (3, .lst false (some 3) (List.map eapi_Item z39))], 4⟩
          have hc51 : decide (i47 < (z39.length : Int)) = true := decide_eq_true hgo49
          refine NWp.opsJ ⟨tab [(5, .ptr 0 0 0), (7, .loc 2 0 z40.length), (86, .loc 3 0 z39.length), (87, .d (.int .i64 (z39.length : Int))), (88, .d (.int .i64 i47)), (89, .d (.bool (decide (i47 < (z39.length : Int)))))], stab [(0, .var [.loc 1 0 z35.length, .d (.int .i64 z36), .d (.int .i64 z37), .d (.int .i64 z38)]), (1, .lst true (some 3) (List.map eapi_Item z35)), (2, .lst false (some 3) (List.map eapi_Item z40)), (3, .lst false (some 3) (List.map eapi_Item z39))], 4⟩ ?_ ?_
          · refine step (v := .d (.bool (decide (i47 < (z39.length : Int))))) rfl ?_
            exact RunOps.nil' (Norm.mk [0, 1, 2, 3] (by decide) (by decide) (by decide) ⟨.ptr 0 _ _ (show 0 < 4 by decide), .loc 2 _ _ (show 2 < 4 by decide), .loc 3 _ _ (show 3 < 4 by decide), .d _, .d _, .d _, trivial⟩ ⟨⟨show 0 < 4 by decide, _, rfl, .vars ⟨.loc 1 _ _ (show 1 < 4 by decide), .d _, .d _, .d _, trivial⟩⟩, ⟨show 1 < 4 by decide, _, rfl, .lst _ _ _⟩, ⟨show 2 < 4 by decide, _, rfl, .lst _ _ _⟩, ⟨show 3 < 4 by decide, _, rfl, .lst _ _ _⟩, trivial⟩)
          refine NWp.rng 87 rfl fun hB48 => ?_
          refine NWp.seq ?_
          refine NWp.condT (t := decide (i47 < (z39.length : Int))) rfl hc51 ?_
          refine NWp.skip ?_
          refine NWp.seq ?_
          refine NWp.block ?_
          obtain ⟨x53, hx53, h⟩ := bindE h
          refine NWp.opsJ ⟨tab [(5, .ptr 0 0 0), (7, .loc 2 0 z40.length), (13, .d (.int .i64 i47)), (14, .ptr 3 0 0), (86, .loc 4 0 z39.length), (87, .d (.int .i64 (z39.length : Int))), (88, .d (.int .i64 i47))], stab [(0, .var [.loc 1 0 z35.length, .d (.int .i64 z36), .d (.int .i64 z37), .d (.int .i64 z38)]), (1, .lst true (some 3) (List.map eapi_Item z35)), (2, .lst false (some 3) (List.map eapi_Item z40)), (3, .var [.d (.int .u16 x53.Pt), .d (.str x53.Raw), .d (.int .i64 x53.N)]), (4, .lst false (some 3) (List.map eapi_Item z39))], 5⟩ ?_ ?_
          · refine step (v := .d (.int .i64 i47)) rfl ?_
            refine step (v := .ptr 3 i47.toNat 0) (st_iaddrL (xs := z39) (e := eapi_Item) hx53 rfl rfl rfl rfl) ?_
            refine step (v := .d (eapi_Item x53)) (st_loadL (xs := z39) (e := eapi_Item) hx53 rfl rfl rfl) ?_
            refine step (v := .ptr 4 0 0) (σ' := (upd (stab [(0, .var [.loc 1 0 z35.length, .d (.int .i64 z36), .d (.int .i64 z37), .d (.int .i64 z38)]), (1, .lst true (some 3) (List.map eapi_Item z35)), (2, .lst false (some 3) (List.map eapi_Item z40)), (3, .lst false (some 3) (List.map eapi_Item z39))]) 4 (some (.var [.d (.int .u16 0), .d (.str (⟨#[]⟩ : ByteArray)), .d (.int .i64 0)])))) (n' := 5) rfl ?_
            refine step (v := .d (.int .i64 i47)) rfl ?_
            refine step (v := V.undef) (σ' := (upd (upd (stab [(0, .var [.loc 1 0 z35.length, .d (.int .i64 z36), .d (.int .i64 z37), .d (.int .i64 z38)]), (1, .lst true (some 3) (List.map eapi_Item z35)), (2, .lst false (some 3) (List.map eapi_Item z40)), (3, .lst false (some 3) (List.map eapi_Item z39))]) 4 (some (.var [.d (.int .u16 0), .d (.str (⟨#[]⟩ : ByteArray)), .d (.int .i64 0)]))) 4 (some (.var [.d (.int .u16 x53.Pt), .d (.str x53.Raw), .d (.int .i64 x53.N)])))) (n' := 5) rfl ?_
            exact RunOps.nil' (Norm.mk [0, 1, 2, 4, 3] (by decide) (by decide) (by decide) ⟨.ptr 0 _ _ (show 0 < 5 by decide), .loc 2 _ _ (show 2 < 5 by decide), .d _, .ptr 3 _ _ (show 3 < 5 by decide), .loc 4 _ _ (show 4 < 5 by decide), .d _, .d _, trivial⟩ ⟨⟨show 0 < 5 by decide, _, rfl, .vars ⟨.loc 1 _ _ (show 1 < 5 by decide), .d _, .d _, .d _, trivial⟩⟩, ⟨show 1 < 5 by decide, _, rfl, .lst _ _ _⟩, ⟨show 2 < 5 by decide, _, rfl, .lst _ _ _⟩, ⟨show 3 < 5 by decide, _, rfl, .vars ⟨.d _, .d _, .d _, trivial⟩⟩, ⟨show 4 < 5 by decide, _, rfl, .lst _ _ _⟩, trivial⟩)
          refine NWp.seq ?_
          obtain ⟨y56, hv, h⟩ := bindE h
          refine NWp.opsJ ⟨tab [(5, .ptr 0 0 0), (7, .loc 2 0 z40.length), (13, .d (.int .i64 i47)), (14, .ptr 3 0 0), (86, .loc 4 0 z39.length), (87, .d (.int .i64 (z39.length : Int))), (88, .d (.int .i64 i47)), (104, .d (.bool y56))], stab [(0, .var [.loc 1 0 z35.length, .d (.int .i64 z36), .d (.int .i64 z37), .d (.int .i64 z38)]), (1, .lst true (some 3) (List.map eapi_Item z35)), (2, .lst false (some 3) (List.map eapi_Item z40)), (3, .var [.d (.int .u16 x53.Pt), .d (.str x53.Raw), .d (.int .i64 x53.N)]), (4, .lst false (some 3) (List.map eapi_Item z39))], 5⟩ ?_ ?_
          · refine step (v := .d (.int .i64 i47)) rfl ?_
            refine step (v := .loc 2 0 z40.length) rfl ?_
            refine step (v := .d (.int .i64 (z40.length : Int))) rfl ?_
            refine step (v := .d (.bool (decide (i47 < (z40.length : Int))))) rfl ?_
            refine step (v := .d (.bool (decide (i47 < (z40.length : Int))))) rfl ?_
            by_cases hg54 : decide (i47 < (z40.length : Int)) = true
            · replace hv := iteT hg54 hv
              obtain ⟨x55, hx55, hv⟩ := bindE hv
              refine stepG (c := decide (i47 < (z40.length : Int))) rfl hg54 ?_
              refine step (v := .loc 2 0 z40.length) rfl ?_
              refine stepG (c := decide (i47 < (z40.length : Int))) rfl hg54 ?_
              refine step (v := .d (.int .i64 i47)) rfl ?_
              refine stepG (c := decide (i47 < (z40.length : Int))) rfl hg54 ?_
              refine step (v := .ptr 2 i47.toNat 0) (st_iaddrL (xs := z40) (e := eapi_Item) hx55 rfl rfl rfl rfl) ?_
              refine stepG (c := decide (i47 < (z40.length : Int))) rfl hg54 ?_
              refine step (v := .d (eapi_Item x55)) (st_loadL (xs := z40) (e := eapi_Item) hx55 rfl rfl rfl) ?_
              refine stepG (c := decide (i47 < (z40.length : Int))) rfl hg54 ?_
              refine step (v := .d (eapi_Item x53)) (st_ldV (ds := [.int .u16 x53.Pt, .str x53.Raw, .int .i64 x53.N]) rfl rfl (show 3 ≤ 3 by decide) rfl) ?_
              refine stepG (c := decide (i47 < (z40.length : Int))) rfl hg54 ?_
              refine step (v := .d (.bool (!(x55 == x53)))) (st_eqS (neg := true) rfl rfl (eqS_api_Item x55 x53)) ?_
              refine step (v := .d (.bool (!(x55 == x53)))) (st_pickT (b := decide (i47 < (z40.length : Int))) rfl hg54 rfl) ?_
              have hh := Option.some.inj hv
              subst hh
              exact RunOps.nil' (Norm.mk [0, 1, 2, 3, 4] (by decide) (by decide) (by decide) ⟨.ptr 0 _ _ (show 0 < 5 by decide), .loc 2 _ _ (show 2 < 5 by decide), .d _, .ptr 3 _ _ (show 3 < 5 by decide), .loc 4 _ _ (show 4 < 5 by decide), .d _, .d _, .d _, trivial⟩ ⟨⟨show 0 < 5 by decide, _, rfl, .vars ⟨.loc 1 _ _ (show 1 < 5 by decide), .d _, .d _, .d _, trivial⟩⟩, ⟨show 1 < 5 by decide, _, rfl, .lst _ _ _⟩, ⟨show 2 < 5 by decide, _, rfl, .lst _ _ _⟩, ⟨show 3 < 5 by decide, _, rfl, .vars ⟨.d _, .d _, .d _, trivial⟩⟩, ⟨show 4 < 5 by decide, _, rfl, .lst _ _ _⟩, trivial⟩)
            · replace hv := iteF hg54 hv
              refine stepX (c := decide (i47 < (z40.length : Int))) rfl hg54 ?_
              refine stepX (c := decide (i47 < (z40.length : Int))) rfl hg54 ?_
              refine stepX (c := decide (i47 < (z40.length : Int))) rfl hg54 ?_
              refine stepX (c := decide (i47 < (z40.length : Int))) rfl hg54 ?_
              refine stepX (c := decide (i47 < (z40.length : Int))) rfl hg54 ?_
              refine stepX (c := decide (i47 < (z40.length : Int))) rfl hg54 ?_
              refine step (v := .d (.bool false)) (st_pickF (b := decide (i47 < (z40.length : Int))) rfl hg54 rfl) ?_
              have hh := Option.some.inj hv
              subst hh
              exact RunOps.nil' (Norm.mk [0, 1, 2, 3, 4] (by decide) (by decide) (by decide) ⟨.ptr 0 _ _ (show 0 < 5 by decide), .loc 2 _ _ (show 2 < 5 by decide), .d _, .ptr 3 _ _ (show 3 < 5 by decide), .loc 4 _ _ (show 4 < 5 by decide), .d _, .d _, .d _, trivial⟩ ⟨⟨show 0 < 5 by decide, _, rfl, .vars ⟨.loc 1 _ _ (show 1 < 5 by decide), .d _, .d _, .d _, trivial⟩⟩, ⟨show 1 < 5 by decide, _, rfl, .lst _ _ _⟩, ⟨show 2 < 5 by decide, _, rfl, .lst _ _ _⟩, ⟨show 3 < 5 by decide, _, rfl, .vars ⟨.d _, .d _, .d _, trivial⟩⟩, ⟨show 4 < 5 by decide, _, rfl, .lst _ _ _⟩, trivial⟩)
          by_cases hc58 : y56 = true
          · replace h := iteT hc58 h
            refine NWp.condT (t := y56) rfl hc58 ?_
            refine NWp.opsJ ⟨tab [(4, .d (.bool false))], stab [], 0⟩ ?_ ?_
            · refine step (v := .d (.bool false)) rfl ?_
              exact RunOps.nil' (Norm.mk [] (by decide) (by decide) (by decide) ⟨.d _, trivial⟩ trivial)
            obtain ⟨r59, kr59, hr⟩ := mapE (o := some false) (g := Br.ret) h
            subst hr
            have h := kr59
            have hh := Option.some.inj h
            subst hh
            refine NWp.ret ?_
            refine And.intro (fun hn => nomatch hn) ?_
            intro hq
            have hq := hq.symm
            subst hq
            show FQ _ _ _ _
            exact FQ.mk1 (.inr rfl) (res_t (v := .d (.bool false)) rfl rfl) (RV.d trivial)
          · replace h := iteF hc58 h
            refine NWp.condF (t := y56) rfl hc58 ?_
            refine NWp.skip ?_
            obtain ⟨r59, hr59, h⟩ := bindE h
            refine NWp.opsJ ⟨tab [(5, .ptr 0 0 0), (7, .loc 2 0 z40.length), (13, .d (.int .i64 i47)), (14, .ptr 3 0 0), (15, .ptr 4 0 0), (16, .d (.bool r59.2)), (86, .loc 5 0 z39.length), (87, .d (.int .i64 (z39.length : Int))), (88, .d (.int .i64 i47))], stab [(0, .var [.loc 1 0 z35.length, .d (.int .i64 z36), .d (.int .i64 z37), .d (.int .i64 z38)]), (1, .lst true (some 3) (List.map eapi_Item z35)), (2, .lst false (some 3) (List.map eapi_Item z40)), (3, .var [.d (.int .u16 x53.Pt), .d (.str x53.Raw), .d (.int .i64 x53.N)]), (4, .var [.d (.int .u16 r59.1.Pt), .d (.str r59.1.Raw), .d (.int .i64 r59.1.N)]), (5, .lst false (some 3) (List.map eapi_Item z39))], 6⟩ ?_ ?_
            · refine step (v := .ptr 0 0 0) rfl ?_
              refine step (v := .d (.int .i64 i47)) rfl ?_
              refine step (v := .loc 2 0 z40.length) rfl ?_
              refine step (v := .d (.int .i64 (z40.length : Int))) rfl ?_
              refine step (v := .d (.int .i64 (IntKind.i64.wrap (i47 - (z40.length : Int))))) rfl ?_
              refine stepW (v := .d (.tup [eapi_Item r59.1, .bool r59.2])) (σ' := _) (n' := _) (PCall.borrow (c_queue_Queue_At hr59) rfl (ViewsB.c (viewB_var rfl (ViewsB.c (viewB_all (xs := z35) (e := eapi_Item) rfl rfl) (ViewsB.c (.d _) (ViewsB.c (.d _) (ViewsB.c (.d _) ViewsB.nil0))))) (ViewsB.c (.d _) ViewsB.nil0))) (Nat.le_refl _) ?_
              refine step (v := .d (.tup [eapi_Item r59.1, .bool r59.2])) rfl ?_
              refine step (v := .d (eapi_Item r59.1)) rfl ?_
              refine step (v := .d (.bool r59.2)) rfl ?_
              refine step (v := .ptr 5 0 0) (σ' := (upd (stab [(0, .var [.loc 1 0 z35.length, .d (.int .i64 z36), .d (.int .i64 z37), .d (.int .i64 z38)]), (1, .lst true (some 3) (List.map eapi_Item z35)), (2, .lst false (some 3) (List.map eapi_Item z40)), (3, .var [.d (.int .u16 x53.Pt), .d (.str x53.Raw), .d (.int .i64 x53.N)]), (4, .lst false (some 3) (List.map eapi_Item z39))]) 5 (some (.var [.d (.int .u16 0), .d (.str (⟨#[]⟩ : ByteArray)), .d (.int .i64 0)])))) (n' := 6) rfl ?_
              refine step (v := V.undef) (σ' := (upd (upd (stab [(0, .var [.loc 1 0 z35.length, .d (.int .i64 z36), .d (.int .i64 z37), .d (.int .i64 z38)]), (1, .lst true (some 3) (List.map eapi_Item z35)), (2, .lst false (some 3) (List.map eapi_Item z40)), (3, .var [.d (.int .u16 x53.Pt), .d (.str x53.Raw), .d (.int .i64 x53.N)]), (4, .lst false (some 3) (List.map eapi_Item z39))]) 5 (some (.var [.d (.int .u16 0), .d (.str (⟨#[]⟩ : ByteArray)), .d (.int .i64 0)]))) 5 (some (.var [.d (.int .u16 r59.1.Pt), .d (.str r59.1.Raw), .d (.int .i64 r59.1.N)])))) (n' := 6) rfl ?_
              refine step (v := .d (.bool r59.2)) rfl ?_
              exact RunOps.nil' (Norm.mk [0, 1, 2, 3, 5, 4] (by decide) (by decide) (by decide) ⟨.ptr 0 _ _ (show 0 < 6 by decide), .loc 2 _ _ (show 2 < 6 by decide), .d _, .ptr 3 _ _ (show 3 < 6 by decide), .ptr 4 _ _ (show 4 < 6 by decide), .d _, .loc 5 _ _ (show 5 < 6 by decide), .d _, .d _, trivial⟩ ⟨⟨show 0 < 6 by decide, _, rfl, .vars ⟨.loc 1 _ _ (show 1 < 6 by decide), .d _, .d _, .d _, trivial⟩⟩, ⟨show 1 < 6 by decide, _, rfl, .lst _ _ _⟩, ⟨show 2 < 6 by decide, _, rfl, .lst _ _ _⟩, ⟨show 3 < 6 by decide, _, rfl, .vars ⟨.d _, .d _, .d _, trivial⟩⟩, ⟨show 4 < 6 by decide, _, rfl, .vars ⟨.d _, .d _, .d _, trivial⟩⟩, ⟨show 5 < 6 by decide, _, rfl, .lst _ _ _⟩, trivial⟩)
            refine NWp.opsJ ⟨tab [(5, .ptr 0 0 0), (7, .loc 2 0 z40.length), (86, .loc 3 0 z39.length), (87, .d (.int .i64 (z39.length : Int))), (88, .d (.int .i64 i47)), (126, .d (.bool ((decide (i47 ≥ (z40.length : Int))) && ((!r59.2) || (!(x53 == r59.1))))))], stab [(0, .var [.loc 1 0 z35.length, .d (.int .i64 z36), .d (.int .i64 z37), .d (.int .i64 z38)]), (1, .lst true (some 3) (List.map eapi_Item z35)), (2, .lst false (some 3) (List.map eapi_Item z40)), (3, .lst false (some 3) (List.map eapi_Item z39))], 4⟩ ?_ ?_
            · refine step (v := .d (.int .i64 i47)) rfl ?_
              refine step (v := .loc 2 0 z40.length) rfl ?_
              refine step (v := .d (.int .i64 (z40.length : Int))) rfl ?_
              refine step (v := .d (.bool (decide (i47 ≥ (z40.length : Int))))) rfl ?_
              refine step (v := .d (.bool (decide (i47 ≥ (z40.length : Int))))) rfl ?_
              by_cases hg60 : decide (i47 ≥ (z40.length : Int)) = true
              · refine stepG (c := decide (i47 ≥ (z40.length : Int))) rfl hg60 ?_
                refine step (v := .d (.bool r59.2)) rfl ?_
                refine stepG (c := decide (i47 ≥ (z40.length : Int))) rfl hg60 ?_
                refine step (v := .d (.bool (!r59.2))) rfl ?_
                refine stepG (c := decide (i47 ≥ (z40.length : Int))) rfl hg60 ?_
                refine step (v := .d (.bool (!r59.2))) rfl ?_
                by_cases hg61 : (!r59.2) = true
                · refine stepX (c := (!r59.2)) rfl (by rw [hg61]; decide) ?_
                  refine stepX (c := (!r59.2)) rfl (by rw [hg61]; decide) ?_
                  refine stepX (c := (!r59.2)) rfl (by rw [hg61]; decide) ?_
                  refine stepG (c := decide (i47 ≥ (z40.length : Int))) rfl hg60 ?_
                  refine step (v := .d (.bool true)) (st_pickT (b := (!r59.2)) rfl hg61 rfl) ?_
                  refine step (v := .d (.bool true)) (st_pickT (b := decide (i47 ≥ (z40.length : Int))) rfl hg60 rfl) ?_
                  exact RunOps.nil' (Norm.mk [0, 1, 2, 5] (by decide) (by decide) (by decide) ⟨.ptr 0 _ _ (show 0 < 4 by decide), .loc 2 _ _ (show 2 < 4 by decide), .loc 3 _ _ (show 3 < 4 by decide), .d _, .d _, .eq (by simp [hg60, hg61]), trivial⟩ ⟨⟨show 0 < 4 by decide, _, rfl, .vars ⟨.loc 1 _ _ (show 1 < 4 by decide), .d _, .d _, .d _, trivial⟩⟩, ⟨show 1 < 4 by decide, _, rfl, .lst _ _ _⟩, ⟨show 2 < 4 by decide, _, rfl, .lst _ _ _⟩, ⟨show 3 < 4 by decide, _, rfl, .lst _ _ _⟩, trivial⟩)
                · refine stepG (c := (!r59.2)) rfl (Bool.eq_false_iff.2 hg61) ?_
                  refine step (v := .d (eapi_Item x53)) (st_ldV (ds := [.int .u16 x53.Pt, .str x53.Raw, .int .i64 x53.N]) rfl rfl (show 3 ≤ 3 by decide) rfl) ?_
                  refine stepG (c := (!r59.2)) rfl (Bool.eq_false_iff.2 hg61) ?_
                  refine step (v := .d (eapi_Item r59.1)) (st_ldV (ds := [.int .u16 r59.1.Pt, .str r59.1.Raw, .int .i64 r59.1.N]) rfl rfl (show 3 ≤ 3 by decide) rfl) ?_
                  refine stepG (c := (!r59.2)) rfl (Bool.eq_false_iff.2 hg61) ?_
                  refine step (v := .d (.bool (!(x53 == r59.1)))) (st_eqS (neg := true) rfl rfl (eqS_api_Item x53 r59.1)) ?_
                  refine stepG (c := decide (i47 ≥ (z40.length : Int))) rfl hg60 ?_
                  refine step (v := .d (.bool (!(x53 == r59.1)))) (st_pickF (b := (!r59.2)) rfl hg61 rfl) ?_
                  refine step (v := .d (.bool (!(x53 == r59.1)))) (st_pickT (b := decide (i47 ≥ (z40.length : Int))) rfl hg60 rfl) ?_
                  exact RunOps.nil' (Norm.mk [0, 1, 2, 5] (by decide) (by decide) (by decide) ⟨.ptr 0 _ _ (show 0 < 4 by decide), .loc 2 _ _ (show 2 < 4 by decide), .loc 3 _ _ (show 3 < 4 by decide), .d _, .d _, .eq (by simp [hg60, hg61]), trivial⟩ ⟨⟨show 0 < 4 by decide, _, rfl, .vars ⟨.loc 1 _ _ (show 1 < 4 by decide), .d _, .d _, .d _, trivial⟩⟩, ⟨show 1 < 4 by decide, _, rfl, .lst _ _ _⟩, ⟨show 2 < 4 by decide, _, rfl, .lst _ _ _⟩, ⟨show 3 < 4 by decide, _, rfl, .lst _ _ _⟩, trivial⟩)
              · refine stepX (c := decide (i47 ≥ (z40.length : Int))) rfl hg60 ?_
                refine stepX (c := decide (i47 ≥ (z40.length : Int))) rfl hg60 ?_
                refine stepX (c := decide (i47 ≥ (z40.length : Int))) rfl hg60 ?_
                refine stepXX rfl ?_
                refine stepXX rfl ?_
                refine stepXX rfl ?_
                refine stepX (c := decide (i47 ≥ (z40.length : Int))) rfl hg60 ?_
                refine step (v := .d (.bool false)) (st_pickF (b := decide (i47 ≥ (z40.length : Int))) rfl hg60 rfl) ?_
                exact RunOps.nil' (Norm.mk [0, 1, 2, 5] (by decide) (by decide) (by decide) ⟨.ptr 0 _ _ (show 0 < 4 by decide), .loc 2 _ _ (show 2 < 4 by decide), .loc 3 _ _ (show 3 < 4 by decide), .d _, .d _, .eq (by simp [hg60]), trivial⟩ ⟨⟨show 0 < 4 by decide, _, rfl, .vars ⟨.loc 1 _ _ (show 1 < 4 by decide), .d _, .d _, .d _, trivial⟩⟩, ⟨show 1 < 4 by decide, _, rfl, .lst _ _ _⟩, ⟨show 2 < 4 by decide, _, rfl, .lst _ _ _⟩, ⟨show 3 < 4 by decide, _, rfl, .lst _ _ _⟩, trivial⟩)
            by_cases hc62 : ((decide (i47 ≥ (z40.length : Int))) && ((!r59.2) || (!(x53 == r59.1)))) = true
            · replace h := iteT hc62 h
              refine NWp.condT (t := ((decide (i47 ≥ (z40.length : Int))) && ((!r59.2) || (!(x53 == r59.1))))) rfl hc62 ?_
              refine NWp.opsJ ⟨tab [(4, .d (.bool false))], stab [], 0⟩ ?_ ?_
              · refine step (v := .d (.bool false)) rfl ?_
                exact RunOps.nil' (Norm.mk [] (by decide) (by decide) (by decide) ⟨.d _, trivial⟩ trivial)
              obtain ⟨r63, kr63, hr⟩ := mapE (o := some false) (g := Br.ret) h
              subst hr
              have h := kr63
              have hh := Option.some.inj h
              subst hh
              refine NWp.ret ?_
              refine And.intro (fun hn => nomatch hn) ?_
              intro hq
              have hq := hq.symm
              subst hq
              show FQ _ _ _ _
              exact FQ.mk1 (.inr rfl) (res_t (v := .d (.bool false)) rfl rfl) (RV.d trivial)
            · replace h := iteF hc62 h
              refine NWp.condF (t := ((decide (i47 ≥ (z40.length : Int))) && ((!r59.2) || (!(x53 == r59.1))))) rfl hc62 ?_
              refine NWp.skip ?_
              have hh := Option.some.inj h
              subst hh
              refine NWp.opsE ⟨tab [(5, .ptr 0 0 0), (7, .loc 2 0 z40.length), (86, .loc 3 0 z39.length), (87, .d (.int .i64 (z39.length : Int))), (88, .d (.int .i64 (i47 + 1)))], stab [(0, .var [.loc 1 0 z35.length, .d (.int .i64 z36), .d (.int .i64 z37), .d (.int .i64 z38)]), (1, .lst true (some 3) (List.map eapi_Item z35)), (2, .lst false (some 3) (List.map eapi_Item z40)), (3, .lst false (some 3) (List.map eapi_Item z39))], 4⟩ ?_ ?_
              · refine step (v := .d (.int .i64 (i47 + 1))) (st_inc (inc_ok hinv50 hgo49 hB48) rfl rfl) ?_
                refine step (v := .d (.int .i64 (i47 + 1))) rfl ?_
                exact RunOps.nil' (Norm.mk [0, 1, 2, 3] (by decide) (by decide) (by decide) ⟨.ptr 0 _ _ (show 0 < 4 by decide), .loc 2 _ _ (show 2 < 4 by decide), .loc 3 _ _ (show 3 < 4 by decide), .d _, .d _, trivial⟩ ⟨⟨show 0 < 4 by decide, _, rfl, .vars ⟨.loc 1 _ _ (show 1 < 4 by decide), .d _, .d _, .d _, trivial⟩⟩, ⟨show 1 < 4 by decide, _, rfl, .lst _ _ _⟩, ⟨show 2 < 4 by decide, _, rfl, .lst _ _ _⟩, ⟨show 3 < 4 by decide, _, rfl, .lst _ _ _⟩, trivial⟩)
              exact And.intro rfl rfl
        · rintro i47 ⟨⟩ hinv50 hgo49
          show NWp _ _ _ _ _ ⟨tab [(5, .ptr 0 0 0), (7, .loc 2 0 z40.length), (86, .loc 3 0 z39.length), (87, .d (.int .i64 (z39.length : Int))), (88, .d (.int .i64 i47))], stab [(0, .var [.loc 1 0 z35.length, .d (.int .i64 z36), .d (.int .i64 z37), .d (.int .i64 z38)]), (1, .lst true (some 3) (List.map eapi_Item z35)), (2, .lst false (some 3) (List.map eapi_Item z40)), (3, .lst false (some 3) (List.map eapi_Item z39))], 4⟩
          have hc51 : ¬ (decide (i47 < (z39.length : Int)) = true) := fun hq => hgo49 (of_decide_eq_true hq)
          refine NWp.opsJ ⟨tab [(5, .ptr 0 0 0), (7, .loc 2 0 z40.length), (86, .loc 3 0 z39.length), (87, .d (.int .i64 (z39.length : Int))), (88, .d (.int .i64 i47)), (89, .d (.bool (decide (i47 < (z39.length : Int)))))], stab [(0, .var [.loc 1 0 z35.length, .d (.int .i64 z36), .d (.int .i64 z37), .d (.int .i64 z38)]), (1, .lst true (some 3) (List.map eapi_Item z35)), (2, .lst false (some 3) (List.map eapi_Item z40)), (3, .lst false (some 3) (List.map eapi_Item z39))], 4⟩ ?_ ?_
          · refine step (v := .d (.bool (decide (i47 < (z39.length : Int))))) rfl ?_
            exact RunOps.nil' (Norm.mk [0, 1, 2, 3] (by decide) (by decide) (by decide) ⟨.ptr 0 _ _ (show 0 < 4 by decide), .loc 2 _ _ (show 2 < 4 by decide), .loc 3 _ _ (show 3 < 4 by decide), .d _, .d _, .d _, trivial⟩ ⟨⟨show 0 < 4 by decide, _, rfl, .vars ⟨.loc 1 _ _ (show 1 < 4 by decide), .d _, .d _, .d _, trivial⟩⟩, ⟨show 1 < 4 by decide, _, rfl, .lst _ _ _⟩, ⟨show 2 < 4 by decide, _, rfl, .lst _ _ _⟩, ⟨show 3 < 4 by decide, _, rfl, .lst _ _ _⟩, trivial⟩)
          refine NWp.seq ?_
          refine NWp.condF (t := decide (i47 < (z39.length : Int))) rfl hc51 ?_
          refine NWp.norm (s0 := ⟨tab [], stab [], 0⟩) (Norm.mk [] (by decide) (by decide) (by decide) trivial trivial) ?_
          refine NWp.exit ?_
          exact And.intro rfl rfl
        · intro r' hq
          subst hq
          exact Option.some.inj h
        rintro ⟨⟩ rfl
        refine NWp.opsJ ⟨tab [(4, .d (.bool true))], stab [], 0⟩ ?_ ?_
        · refine step (v := .d (.bool true)) rfl ?_
          exact RunOps.nil' (Norm.mk [] (by decide) (by decide) (by decide) ⟨.d _, trivial⟩ trivial)
        have hh := Option.some.inj h
        subst hh
        refine NWp.ret ?_
        show FQ _ _ _ _
        exact FQ.mk1 (.inr rfl) (res_t (v := .d (.bool true)) rfl rfl) (RV.d trivial)


end Go.AM
