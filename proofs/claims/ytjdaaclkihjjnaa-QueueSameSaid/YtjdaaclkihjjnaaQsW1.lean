import Derived.Test.YtjdaaclkihjjnaaQsE
/-  What they are in the program: walks. -/
set_option linter.unusedVariables false
set_option linter.unusedSimpArgs false
namespace Go.AM
open Go Go.RowKit Go.Proofs

attribute [local irreducible] RunOps RunOpsL

theorem c_queue_New {a0 : Int} {r : queue_Queue} (h : queue_New a0 = some r) : SCall Try.prog 12 [.d (.int .i64 a0)] (stab []) 0 (.ptr 0 0 0) (stab [(0, .var [.loc 1 0 r.ring.length, .d (.int .i64 r.first), .d (.int .i64 r.n_), .d (.int .i64 r.lost)]), (1, .lst true (some 3) (List.map eapi_Item r.ring))]) 2 := by
  refine SCall.introN (bl := []) (bl' := [(0, .var [.loc 1 0 r.ring.length, .d (.int .i64 r.first), .d (.int .i64 r.n_), .d (.int .i64 r.lost)]), (1, .lst true (some 3) (List.map eapi_Item r.ring))]) ok12 (show 1 ≤ 9 by decide) rfl ?_
  refine NWp.norm (s0 := ⟨tab [(0, .d (.int .i64 a0))], stab [], 0⟩) (Norm.mk [] (by decide) (by decide) (by decide) ⟨.d _, trivial⟩ trivial) ?_
  refine NWp.opsJ ⟨tab [(0, .d (.int .i64 a0))], stab [], 0⟩ ?_ ?_
  · refine step (v := .d (.nilp)) rfl ?_
    exact RunOps.nil' (Norm.mk [] (by decide) (by decide) (by decide) ⟨.d _, trivial⟩ trivial)
  obtain ⟨l1, hl1, h⟩ := bindE h
  refine NWp.opsJ ⟨tab [(2, .ptr 0 0 0)], stab [(0, .var [.loc 1 0 l1.length, .d (.int .i64 0), .d (.int .i64 0), .d (.int .i64 0)]), (1, .lst true (some 3) (List.map eapi_Item l1))], 2⟩ ?_ ?_
  · refine step (v := .d (.int .i64 a0)) rfl ?_
    refine step (v := .d (.int .i64 (imax a0 0))) rfl ?_
    refine step (v := .d (.int .i64 (imin (imax a0 0) 64))) rfl ?_
    refine step (v := .loc 0 0 l1.length) (σ' := (upd (stab []) 0 (some (.lst true (some 3) (List.map eapi_Item l1))))) (n' := 1) (st_mk (e := eapi_Item) (z := (api_Item.mk 0 (⟨#[]⟩ : ByteArray) 0)) hl1 rfl rfl (gmk_le hl1)) ?_
    refine step (v := .agg [.loc 0 0 l1.length, .d (.int .i64 0), .d (.int .i64 0), .d (.int .i64 0)]) rfl ?_
    refine step (v := .ptr 1 0 0) (σ' := (upd (upd (stab []) 0 (some (.lst true (some 3) (List.map eapi_Item l1)))) 1 (some (.var [.loc 0 0 l1.length, .d (.int .i64 0), .d (.int .i64 0), .d (.int .i64 0)])))) (n' := 2) rfl ?_
    refine step (v := .ptr 1 0 0) rfl ?_
    exact RunOps.nil' (Norm.mk [1, 0] (by decide) (by decide) (by decide) ⟨.ptr 0 _ _ (show 0 < 2 by decide), trivial⟩ ⟨⟨show 0 < 2 by decide, _, rfl, .vars ⟨.loc 1 _ _ (show 1 < 2 by decide), .d _, .d _, .d _, trivial⟩⟩, ⟨show 1 < 2 by decide, _, rfl, .lst _ _ _⟩, trivial⟩)
  have hh := Option.some.inj h
  subst hh
  refine NWp.ret ?_
  exact ⟨.inr rfl, _, rfl, rfl, AllS.sub ⟨rfl, rfl, trivial⟩, rfl⟩

theorem c_queue_Queue_place {a0 : queue_Queue} {a1 : Int} {r : Int} (h : queue_Queue_place a0 a1 = some r) : PCall Try.prog 42 [.cptr (some 4) (equeue_Queue a0) 0, .int .i64 a1] (.int .i64 r) := by
  refine PCall.introN ok42 (show 2 ≤ 17 by decide) ?_
  refine NWp.norm (s0 := ⟨tab [(0, .d (.cptr (some 4) (equeue_Queue a0) 0)), (1, .d (.int .i64 a1))], stab [], 0⟩) (Norm.mk [] (by decide) (by decide) (by decide) ⟨.d _, .d _, trivial⟩ trivial) ?_
  refine NWp.opsJ ⟨tab [(0, .d (.cptr (some 4) (equeue_Queue a0) 0)), (1, .d (.int .i64 a1))], stab [], 0⟩ ?_ ?_
  · refine step (v := .d (.int .i64 0)) rfl ?_
    exact RunOps.nil' (Norm.mk [] (by decide) (by decide) (by decide) ⟨.d _, .d _, trivial⟩ trivial)
  obtain ⟨q1, hq1, h⟩ := bindE h
  refine NWp.opsJ ⟨tab [(4, .d (.int .i64 q1))], stab [], 0⟩ ?_ ?_
  · refine step (v := .d (.cptr (some 4) (equeue_Queue a0) 0)) rfl ?_
    refine step (v := .d (.cptr (some 4) (equeue_Queue a0) 0)) rfl ?_
    refine step (v := .d (.cptr (some 4) (equeue_Queue a0) 1)) rfl ?_
    refine step (v := .d (.int .i64 a0.first)) rfl ?_
    refine step (v := .d (.int .i64 a1)) rfl ?_
    refine step (v := .d (.int .i64 (IntKind.i64.wrap (a0.first + a1)))) rfl ?_
    refine step (v := .d (.cptr (some 4) (equeue_Queue a0) 0)) rfl ?_
    refine step (v := .d (.cptr (some 4) (equeue_Queue a0) 0)) rfl ?_
    refine step (v := .d (.cptr (some 4) (equeue_Queue a0) 0)) rfl ?_
    refine step (v := .d (eL (some 3) eapi_Item a0.ring)) rfl ?_
    refine step (v := .d (.int .i64 (a0.ring.length : Int))) (st_len (xs := a0.ring) (e := eapi_Item) rfl) ?_
    refine step (v := .d (.int .i64 q1)) (st_rem hq1 rfl rfl) ?_
    refine step (v := .d (.int .i64 q1)) rfl ?_
    exact RunOps.nil' (Norm.mk [] (by decide) (by decide) (by decide) ⟨.d _, trivial⟩ trivial)
  have hh := Option.some.inj h
  subst hh
  refine NWp.ret ?_
  show FQ _ _ _ _
  exact FQ.mk1 (.inr rfl) (res_t (v := .d (.int .i64 q1)) rfl rfl) (RV.d trivial)

theorem c_queue_Queue_Push {a0 : queue_Queue} {a1 : api_Item} {r : (Int × queue_Queue)} (h : queue_Queue_Push a0 a1 = some r) : SCall Try.prog 15 [.ptr 0 0 0, .d (eapi_Item a1)] (stab [(0, .var [.loc 1 0 a0.ring.length, .d (.int .i64 a0.first), .d (.int .i64 a0.n_), .d (.int .i64 a0.lost)]), (1, .lst true (some 3) (List.map eapi_Item a0.ring))]) 2 (.d (.int .i64 r.1)) (stab [(0, .var [.loc 1 0 r.2.ring.length, .d (.int .i64 r.2.first), .d (.int .i64 r.2.n_), .d (.int .i64 r.2.lost)]), (1, .lst true (some 3) (List.map eapi_Item r.2.ring))]) 2 := by
  refine SCall.introN (bl := [(0, .var [.loc 1 0 a0.ring.length, .d (.int .i64 a0.first), .d (.int .i64 a0.n_), .d (.int .i64 a0.lost)]), (1, .lst true (some 3) (List.map eapi_Item a0.ring))]) (bl' := [(0, .var [.loc 1 0 r.2.ring.length, .d (.int .i64 r.2.first), .d (.int .i64 r.2.n_), .d (.int .i64 r.2.lost)]), (1, .lst true (some 3) (List.map eapi_Item r.2.ring))]) ok15 (show 2 ≤ 45 by decide) rfl ?_
  refine NWp.norm (s0 := ⟨tab [(0, .ptr 0 0 0), (1, .d (eapi_Item a1))], stab [(0, .var [.loc 1 0 a0.ring.length, .d (.int .i64 a0.first), .d (.int .i64 a0.n_), .d (.int .i64 a0.lost)]), (1, .lst true (some 3) (List.map eapi_Item a0.ring))], 2⟩) (Norm.mk [0, 1] (by decide) (by decide) (by decide) ⟨.ptr 0 _ _ (show 0 < 2 by decide), .d _, trivial⟩ ⟨⟨show 0 < 2 by decide, _, rfl, .vars ⟨.loc 1 _ _ (show 1 < 2 by decide), .d _, .d _, .d _, trivial⟩⟩, ⟨show 1 < 2 by decide, _, rfl, .lst _ _ _⟩, trivial⟩) ?_
  refine NWp.opsJ ⟨tab [(0, .ptr 0 0 0), (3, .d (.cptr (some 3) (eapi_Item a1) 0))], stab [(0, .var [.loc 1 0 a0.ring.length, .d (.int .i64 a0.first), .d (.int .i64 a0.n_), .d (.int .i64 a0.lost)]), (1, .lst true (some 3) (List.map eapi_Item a0.ring))], 2⟩ ?_ ?_
  · refine step (v := .d (.cptr (some 3) (eapi_Item a1) 0)) rfl ?_
    refine step (v := .d (.int .i64 0)) rfl ?_
    exact RunOps.nil' (Norm.mk [0, 1] (by decide) (by decide) (by decide) ⟨.ptr 0 _ _ (show 0 < 2 by decide), .d _, trivial⟩ ⟨⟨show 0 < 2 by decide, _, rfl, .vars ⟨.loc 1 _ _ (show 1 < 2 by decide), .d _, .d _, .d _, trivial⟩⟩, ⟨show 1 < 2 by decide, _, rfl, .lst _ _ _⟩, trivial⟩)
  refine NWp.seq ?_
  refine NWp.block ?_
  refine NWp.opsJ ⟨tab [(0, .ptr 0 0 0), (3, .d (.cptr (some 3) (eapi_Item a1) 0)), (5, .d (.bool false))], stab [(0, .var [.loc 1 0 a0.ring.length, .d (.int .i64 a0.first), .d (.int .i64 a0.n_), .d (.int .i64 a0.lost)]), (1, .lst true (some 3) (List.map eapi_Item a0.ring))], 2⟩ ?_ ?_
  · refine step (v := .ptr 0 0 0) rfl ?_
    refine step (v := .d (.bool false)) rfl ?_
    refine step (v := .d (.bool false)) rfl ?_
    exact RunOps.nil' (Norm.mk [0, 1] (by decide) (by decide) (by decide) ⟨.ptr 0 _ _ (show 0 < 2 by decide), .d _, .d _, trivial⟩ ⟨⟨show 0 < 2 by decide, _, rfl, .vars ⟨.loc 1 _ _ (show 1 < 2 by decide), .d _, .d _, .d _, trivial⟩⟩, ⟨show 1 < 2 by decide, _, rfl, .lst _ _ _⟩, trivial⟩)
  refine NWp.condF (t := false) rfl (by decide) ?_
  refine NWp.opsJ ⟨tab [(0, .ptr 0 0 0), (3, .d (.cptr (some 3) (eapi_Item a1) 0)), (8, .d (.bool (a0.n_ == (a0.ring.length : Int))))], stab [(0, .var [.loc 1 0 a0.ring.length, .d (.int .i64 a0.first), .d (.int .i64 a0.n_), .d (.int .i64 a0.lost)]), (1, .lst true (some 3) (List.map eapi_Item a0.ring))], 2⟩ ?_ ?_
  · refine step (v := .ptr 0 0 0) rfl ?_
    refine step (v := .ptr 0 0 0) rfl ?_
    refine step (v := .ptr 0 0 2) rfl ?_
    refine step (v := .d (.int .i64 a0.n_)) rfl ?_
    refine step (v := .ptr 0 0 0) rfl ?_
    refine step (v := .ptr 0 0 0) rfl ?_
    refine step (v := .ptr 0 0 0) rfl ?_
    refine step (v := .loc 1 0 a0.ring.length) rfl ?_
    refine step (v := .d (.int .i64 (a0.ring.length : Int))) rfl ?_
    refine step (v := .d (.bool (a0.n_ == (a0.ring.length : Int)))) rfl ?_
    refine step (v := .d (.bool (a0.n_ == (a0.ring.length : Int)))) rfl ?_
    exact RunOps.nil' (Norm.mk [0, 1] (by decide) (by decide) (by decide) ⟨.ptr 0 _ _ (show 0 < 2 by decide), .d _, .d _, trivial⟩ ⟨⟨show 0 < 2 by decide, _, rfl, .vars ⟨.loc 1 _ _ (show 1 < 2 by decide), .d _, .d _, .d _, trivial⟩⟩, ⟨show 1 < 2 by decide, _, rfl, .lst _ _ _⟩, trivial⟩)
  by_cases hc1 : (a0.n_ == (a0.ring.length : Int)) = true
  · replace h := iteT hc1 h
    refine NWp.condT (t := (a0.n_ == (a0.ring.length : Int))) rfl hc1 ?_
    refine NWp.opsJ ⟨tab [], stab [(0, .var [.loc 1 0 a0.ring.length, .d (.int .i64 a0.first), .d (.int .i64 a0.n_), .d (.int .i64 (IntKind.i64.wrap (a0.lost + 1)))]), (1, .lst true (some 3) (List.map eapi_Item a0.ring))], 2⟩ ?_ ?_
    · refine step (v := .ptr 0 0 0) rfl ?_
      refine step (v := .ptr 0 0 0) rfl ?_
      refine step (v := .ptr 0 0 3) rfl ?_
      refine step (v := .d (.int .i64 a0.lost)) rfl ?_
      refine step (v := .d (.int .i64 (IntKind.i64.wrap (a0.lost + 1)))) rfl ?_
      refine step (v := .ptr 0 0 0) rfl ?_
      refine step (v := .ptr 0 0 3) rfl ?_
      refine step (v := V.undef) (σ' := (upd (stab [(0, .var [.loc 1 0 a0.ring.length, .d (.int .i64 a0.first), .d (.int .i64 a0.n_), .d (.int .i64 a0.lost)]), (1, .lst true (some 3) (List.map eapi_Item a0.ring))]) 0 (some (.var [.loc 1 0 a0.ring.length, .d (.int .i64 a0.first), .d (.int .i64 a0.n_), .d (.int .i64 (IntKind.i64.wrap (a0.lost + 1)))])))) (n' := 2) rfl ?_
      exact RunOps.nil' (Norm.mk [0, 1] (by decide) (by decide) (by decide) trivial ⟨⟨show 0 < 2 by decide, _, rfl, .vars ⟨.loc 1 _ _ (show 1 < 2 by decide), .d _, .d _, .d _, trivial⟩⟩, ⟨show 1 < 2 by decide, _, rfl, .lst _ _ _⟩, trivial⟩)
    refine NWp.opsJ ⟨tab [(4, .d (.int .i64 32))], stab [(0, .var [.loc 1 0 a0.ring.length, .d (.int .i64 a0.first), .d (.int .i64 a0.n_), .d (.int .i64 (IntKind.i64.wrap (a0.lost + 1)))]), (1, .lst true (some 3) (List.map eapi_Item a0.ring))], 2⟩ ?_ ?_
    · refine step (v := .d (.int .i64 32)) rfl ?_
      exact RunOps.nil' (Norm.mk [0, 1] (by decide) (by decide) (by decide) ⟨.d _, trivial⟩ ⟨⟨show 0 < 2 by decide, _, rfl, .vars ⟨.loc 1 _ _ (show 1 < 2 by decide), .d _, .d _, .d _, trivial⟩⟩, ⟨show 1 < 2 by decide, _, rfl, .lst _ _ _⟩, trivial⟩)
    have hh := Option.some.inj h
    subst hh
    refine NWp.ret ?_
    exact ⟨.inr rfl, _, rfl, rfl, AllS.sub ⟨rfl, rfl, trivial⟩, rfl⟩
  · replace h := iteF hc1 h
    refine NWp.condF (t := (a0.n_ == (a0.ring.length : Int))) rfl hc1 ?_
    refine NWp.skip ?_
    obtain ⟨r2, hr2, h⟩ := bindE h
    obtain ⟨x3, hx3, h⟩ := bindE h
    obtain ⟨l4, hl4, h⟩ := bindE h
    refine NWp.opsSJ ⟨tab [(0, .ptr 0 0 0)], stab [(0, .var [.loc 1 0 l4.length, .d (.int .i64 a0.first), .d (.int .i64 a0.n_), .d (.int .i64 a0.lost)]), (1, .lst true (some 3) (List.map eapi_Item l4))], 2⟩ ?_ ?_
    · refine stepL [] [] (v := .ptr 0 0 0) rfl rfl rfl ?_
      refine stepL [] [] (v := .ptr 0 0 0) rfl rfl rfl ?_
      refine stepL [] [] (v := .ptr 0 0 0) rfl rfl rfl ?_
      refine stepL [0] [] (v := .loc 1 0 a0.ring.length) rfl rfl rfl ?_
      refine stepL [] [] (v := .ptr 0 0 0) rfl rfl rfl ?_
      refine stepL [] [] (v := .ptr 0 0 0) rfl rfl rfl ?_
      refine stepL [] [] (v := .ptr 0 0 0) rfl rfl rfl ?_
      refine stepL [] [] (v := .ptr 0 0 2) rfl rfl rfl ?_
      refine stepL [0] [] (v := .d (.int .i64 a0.n_)) rfl rfl rfl ?_
      refine stepLW (σ' := (stab [(0, .var [.loc 1 0 a0.ring.length, .d (.int .i64 a0.first), .d (.int .i64 a0.n_), .d (.int .i64 a0.lost)]), (1, .lst true (some 3) (List.map eapi_Item a0.ring))])) (R := [0, 1]) (W := []) (PCall.fborrow (c_queue_Queue_place hr2) rfl [(0, .var [.loc 1 0 a0.ring.length, .d (.int .i64 a0.first), .d (.int .i64 a0.n_), .d (.int .i64 a0.lost)]), (1, .lst true (some 3) (List.map eapi_Item a0.ring))] (ViewsB.c (viewB_var rfl (ViewsB.c (viewB_all (xs := a0.ring) (e := eapi_Item) rfl rfl) (ViewsB.c (.d _) (ViewsB.c (.d _) (ViewsB.c (.d _) ViewsB.nil0))))) (ViewsB.c (.d _) ViewsB.nil0))) ⟨rfl, rfl, trivial⟩ rfl rfl rfl ?_
      refine stepL [] [] (v := .d (eapi_Item a1)) rfl rfl rfl ?_
      refine stepL [1] [] (v := .ptr 1 r2.toNat 0) (st_iaddrL (xs := a0.ring) (e := eapi_Item) hx3 rfl rfl rfl rfl) rfl rfl ?_
      refine stepL [1] [1] (v := V.undef) (σ' := (upd (stab [(0, .var [.loc 1 0 a0.ring.length, .d (.int .i64 a0.first), .d (.int .i64 a0.n_), .d (.int .i64 a0.lost)]), (1, .lst true (some 3) (List.map eapi_Item a0.ring))]) 1 (some (.lst true (some 3) (List.map eapi_Item l4))))) (n' := 2) (st_storeL' (e := eapi_Item) (v' := a1) hl4 rfl rfl rfl rfl rfl) rfl rfl ?_
      exact RunOpsL.nil' ⟨by decide, Norm.mk [0, 1] (by decide) (by decide) (by decide) ⟨.ptr 0 _ _ (show 0 < 2 by decide), trivial⟩ ⟨⟨show 0 < 2 by decide, _, rfl, .vars ⟨.le (id := 1) (gput_len hl4).symm (show 1 < 2 by decide), .d _, .d _, .d _, trivial⟩⟩, ⟨show 1 < 2 by decide, _, rfl, .lst _ _ _⟩, trivial⟩⟩
    refine NWp.opsJ ⟨tab [], stab [(0, .var [.loc 1 0 l4.length, .d (.int .i64 a0.first), .d (.int .i64 (IntKind.i64.wrap (a0.n_ + 1))), .d (.int .i64 a0.lost)]), (1, .lst true (some 3) (List.map eapi_Item l4))], 2⟩ ?_ ?_
    · refine step (v := .ptr 0 0 0) rfl ?_
      refine step (v := .ptr 0 0 0) rfl ?_
      refine step (v := .ptr 0 0 2) rfl ?_
      refine step (v := .d (.int .i64 a0.n_)) rfl ?_
      refine step (v := .d (.int .i64 (IntKind.i64.wrap (a0.n_ + 1)))) rfl ?_
      refine step (v := .ptr 0 0 0) rfl ?_
      refine step (v := .ptr 0 0 2) rfl ?_
      refine step (v := V.undef) (σ' := (upd (stab [(0, .var [.loc 1 0 l4.length, .d (.int .i64 a0.first), .d (.int .i64 a0.n_), .d (.int .i64 a0.lost)]), (1, .lst true (some 3) (List.map eapi_Item l4))]) 0 (some (.var [.loc 1 0 l4.length, .d (.int .i64 a0.first), .d (.int .i64 (IntKind.i64.wrap (a0.n_ + 1))), .d (.int .i64 a0.lost)])))) (n' := 2) rfl ?_
      exact RunOps.nil' (Norm.mk [0, 1] (by decide) (by decide) (by decide) trivial ⟨⟨show 0 < 2 by decide, _, rfl, .vars ⟨.loc 1 _ _ (show 1 < 2 by decide), .d _, .d _, .d _, trivial⟩⟩, ⟨show 1 < 2 by decide, _, rfl, .lst _ _ _⟩, trivial⟩)
    refine NWp.opsJ ⟨tab [(4, .d (.int .i64 0))], stab [(0, .var [.loc 1 0 l4.length, .d (.int .i64 a0.first), .d (.int .i64 (IntKind.i64.wrap (a0.n_ + 1))), .d (.int .i64 a0.lost)]), (1, .lst true (some 3) (List.map eapi_Item l4))], 2⟩ ?_ ?_
    · refine step (v := .d (.int .i64 0)) rfl ?_
      exact RunOps.nil' (Norm.mk [0, 1] (by decide) (by decide) (by decide) ⟨.d _, trivial⟩ ⟨⟨show 0 < 2 by decide, _, rfl, .vars ⟨.loc 1 _ _ (show 1 < 2 by decide), .d _, .d _, .d _, trivial⟩⟩, ⟨show 1 < 2 by decide, _, rfl, .lst _ _ _⟩, trivial⟩)
    have hh := Option.some.inj h
    subst hh
    refine NWp.ret ?_
    exact ⟨.inr rfl, _, rfl, rfl, AllS.sub ⟨rfl, rfl, trivial⟩, rfl⟩

theorem c_queue_Queue_At {a0 : queue_Queue} {a1 : Int} {r : (api_Item × Bool)} (h : queue_Queue_At a0 a1 = some r) : PCall Try.prog 20 [.cptr (some 4) (equeue_Queue a0) 0, .int .i64 a1] (.tup [eapi_Item r.1, .bool r.2]) := by
  refine PCall.introN ok20 (show 2 ≤ 30 by decide) ?_
  refine NWp.norm (s0 := ⟨tab [(0, .d (.cptr (some 4) (equeue_Queue a0) 0)), (1, .d (.int .i64 a1))], stab [], 0⟩) (Norm.mk [] (by decide) (by decide) (by decide) ⟨.d _, .d _, trivial⟩ trivial) ?_
  refine NWp.opsJ ⟨tab [(0, .d (.cptr (some 4) (equeue_Queue a0) 0)), (1, .d (.int .i64 a1)), (4, .ptr 0 0 0)], stab [(0, .var [.d (.int .u16 0), .d (.str (⟨#[]⟩ : ByteArray)), .d (.int .i64 0)])], 1⟩ ?_ ?_
  · refine step (v := .ptr 0 0 0) (σ' := (upd (stab []) 0 (some (.var [.d (.int .u16 0), .d (.str (⟨#[]⟩ : ByteArray)), .d (.int .i64 0)])))) (n' := 1) rfl ?_
    refine step (v := .d (.bool false)) rfl ?_
    exact RunOps.nil' (Norm.mk [0] (by decide) (by decide) (by decide) ⟨.d _, .d _, .ptr 0 _ _ (show 0 < 1 by decide), trivial⟩ ⟨⟨show 0 < 1 by decide, _, rfl, .vars ⟨.d _, .d _, .d _, trivial⟩⟩, trivial⟩)
  refine NWp.seq ?_
  refine NWp.opsJ ⟨tab [(0, .d (.cptr (some 4) (equeue_Queue a0) 0)), (1, .d (.int .i64 a1)), (4, .ptr 0 0 0), (19, .d (.bool ((decide (a1 < 0)) || (decide (a1 ≥ a0.n_)))))], stab [(0, .var [.d (.int .u16 0), .d (.str (⟨#[]⟩ : ByteArray)), .d (.int .i64 0)])], 1⟩ ?_ ?_
  · refine step (v := .d (.cptr (some 4) (equeue_Queue a0) 0)) rfl ?_
    refine step (v := .d (.bool false)) rfl ?_
    refine step (v := .d (.bool false)) rfl ?_
    refine stepG (c := false) rfl rfl ?_
    refine step (v := .d (.int .i64 a1)) rfl ?_
    refine stepG (c := false) rfl rfl ?_
    refine step (v := .d (.bool (decide (a1 < 0)))) rfl ?_
    refine step (v := .d (.bool (decide (a1 < 0)))) (st_pickF (b := false) rfl (by decide) rfl) ?_
    refine step (v := .d (.bool (decide (a1 < 0)))) rfl ?_
    by_cases hg1 : decide (a1 < 0) = true
    · refine stepX (c := decide (a1 < 0)) rfl (by rw [hg1]; decide) ?_
      refine stepX (c := decide (a1 < 0)) rfl (by rw [hg1]; decide) ?_
      refine stepX (c := decide (a1 < 0)) rfl (by rw [hg1]; decide) ?_
      refine stepX (c := decide (a1 < 0)) rfl (by rw [hg1]; decide) ?_
      refine stepX (c := decide (a1 < 0)) rfl (by rw [hg1]; decide) ?_
      refine stepX (c := decide (a1 < 0)) rfl (by rw [hg1]; decide) ?_
      refine step (v := .d (.bool true)) (st_pickT (b := decide (a1 < 0)) rfl hg1 rfl) ?_
      exact RunOps.nil' (Norm.mk [0] (by decide) (by decide) (by decide) ⟨.d _, .d _, .ptr 0 _ _ (show 0 < 1 by decide), .eq (by simp [hg1]), trivial⟩ ⟨⟨show 0 < 1 by decide, _, rfl, .vars ⟨.d _, .d _, .d _, trivial⟩⟩, trivial⟩)
    · refine stepG (c := decide (a1 < 0)) rfl (Bool.eq_false_iff.2 hg1) ?_
      refine step (v := .d (.int .i64 a1)) rfl ?_
      refine stepG (c := decide (a1 < 0)) rfl (Bool.eq_false_iff.2 hg1) ?_
      refine step (v := .d (.cptr (some 4) (equeue_Queue a0) 0)) rfl ?_
      refine stepG (c := decide (a1 < 0)) rfl (Bool.eq_false_iff.2 hg1) ?_
      refine step (v := .d (.cptr (some 4) (equeue_Queue a0) 0)) rfl ?_
      refine stepG (c := decide (a1 < 0)) rfl (Bool.eq_false_iff.2 hg1) ?_
      refine step (v := .d (.cptr (some 4) (equeue_Queue a0) 2)) rfl ?_
      refine stepG (c := decide (a1 < 0)) rfl (Bool.eq_false_iff.2 hg1) ?_
      refine step (v := .d (.int .i64 a0.n_)) rfl ?_
      refine stepG (c := decide (a1 < 0)) rfl (Bool.eq_false_iff.2 hg1) ?_
      refine step (v := .d (.bool (decide (a1 ≥ a0.n_)))) rfl ?_
      refine step (v := .d (.bool (decide (a1 ≥ a0.n_)))) (st_pickF (b := decide (a1 < 0)) rfl hg1 rfl) ?_
      exact RunOps.nil' (Norm.mk [0] (by decide) (by decide) (by decide) ⟨.d _, .d _, .ptr 0 _ _ (show 0 < 1 by decide), .eq (by simp [hg1]), trivial⟩ ⟨⟨show 0 < 1 by decide, _, rfl, .vars ⟨.d _, .d _, .d _, trivial⟩⟩, trivial⟩)
  by_cases hc2 : ((decide (a1 < 0)) || (decide (a1 ≥ a0.n_))) = true
  · replace h := iteT hc2 h
    refine NWp.condT (t := ((decide (a1 < 0)) || (decide (a1 ≥ a0.n_)))) rfl hc2 ?_
    refine NWp.opsJ ⟨tab [(4, .ptr 0 0 0), (5, .d (.bool false))], stab [(0, .var [.d (.int .u16 0), .d (.str (⟨#[]⟩ : ByteArray)), .d (.int .i64 0)])], 1⟩ ?_ ?_
    · refine step (v := .d (eapi_Item (api_Item.mk 0 (⟨#[]⟩ : ByteArray) 0))) (st_build (ds := [.int .u16 0, .str (⟨#[]⟩ : ByteArray), .int .i64 0]) rfl) ?_
      refine step (v := V.undef) (σ' := (upd (stab [(0, .var [.d (.int .u16 0), .d (.str (⟨#[]⟩ : ByteArray)), .d (.int .i64 0)])]) 0 (some (.var [.d (.int .u16 0), .d (.str (⟨#[]⟩ : ByteArray)), .d (.int .i64 0)])))) (n' := 1) rfl ?_
      refine step (v := .d (.bool false)) rfl ?_
      exact RunOps.nil' (Norm.mk [0] (by decide) (by decide) (by decide) ⟨.ptr 0 _ _ (show 0 < 1 by decide), .d _, trivial⟩ ⟨⟨show 0 < 1 by decide, _, rfl, .vars ⟨.d _, .d _, .d _, trivial⟩⟩, trivial⟩)
    have hh := Option.some.inj h
    subst hh
    refine NWp.ret ?_
    show FQ _ _ _ _
    exact FQ.mkT (.inr rfl) (res_cell (ds := [.int .u16 0, .str (⟨#[]⟩ : ByteArray), .int .i64 0]) rfl rfl (show 3 ≤ 3 by decide) rfl (res_t (v := .d (.bool false)) rfl rfl)) (RV.d (RV.d trivial))
  · replace h := iteF hc2 h
    refine NWp.condF (t := ((decide (a1 < 0)) || (decide (a1 ≥ a0.n_)))) rfl hc2 ?_
    refine NWp.skip ?_
    obtain ⟨r3, hr3, h⟩ := bindE h
    obtain ⟨x4, hx4, h⟩ := bindE h
    refine NWp.opsJ ⟨tab [(4, .ptr 0 0 0), (5, .d (.bool true))], stab [(0, .var [.d (.int .u16 x4.Pt), .d (.str x4.Raw), .d (.int .i64 x4.N)])], 1⟩ ?_ ?_
    · refine step (v := .d (.cptr (some 4) (equeue_Queue a0) 0)) rfl ?_
      refine step (v := .d (.cptr (some 4) (equeue_Queue a0) 0)) rfl ?_
      refine step (v := .d (.cptr (some 4) (equeue_Queue a0) 0)) rfl ?_
      refine step (v := .d (eL (some 3) eapi_Item a0.ring)) rfl ?_
      refine step (v := .d (.cptr (some 4) (equeue_Queue a0) 0)) rfl ?_
      refine step (v := .d (.int .i64 a1)) rfl ?_
      refine stepC (r := .int .i64 r3) (ArgsOk.dt (ArgsOk.dt ArgsOk.nil')) (c_queue_Queue_place hr3) ?_
      refine step (v := .d (.cptr (some 3) (eapi_Item x4) 0)) (st_iaddr (xs := a0.ring) (e := eapi_Item) hx4 rfl rfl) ?_
      refine step (v := .d (eapi_Item x4)) rfl ?_
      refine step (v := V.undef) (σ' := (upd (stab [(0, .var [.d (.int .u16 0), .d (.str (⟨#[]⟩ : ByteArray)), .d (.int .i64 0)])]) 0 (some (.var [.d (.int .u16 x4.Pt), .d (.str x4.Raw), .d (.int .i64 x4.N)])))) (n' := 1) rfl ?_
      refine step (v := .d (.bool true)) rfl ?_
      exact RunOps.nil' (Norm.mk [0] (by decide) (by decide) (by decide) ⟨.ptr 0 _ _ (show 0 < 1 by decide), .d _, trivial⟩ ⟨⟨show 0 < 1 by decide, _, rfl, .vars ⟨.d _, .d _, .d _, trivial⟩⟩, trivial⟩)
    have hh := Option.some.inj h
    subst hh
    refine NWp.ret ?_
    show FQ _ _ _ _
    exact FQ.mkT (.inr rfl) (res_cell (ds := [.int .u16 x4.Pt, .str x4.Raw, .int .i64 x4.N]) rfl rfl (show 3 ≤ 3 by decide) rfl (res_t (v := .d (.bool true)) rfl rfl)) (RV.d (RV.d trivial))

theorem c_queue_Queue_Pop {a0 : queue_Queue} {r : (api_Item × Bool × queue_Queue)} (h : queue_Queue_Pop a0 = some r) : SCall Try.prog 17 [.ptr 0 0 0] (stab [(0, .var [.loc 1 0 a0.ring.length, .d (.int .i64 a0.first), .d (.int .i64 a0.n_), .d (.int .i64 a0.lost)]), (1, .lst true (some 3) (List.map eapi_Item a0.ring))]) 2 (.d (.tup [eapi_Item r.1, .bool r.2.1])) (stab [(0, .var [.loc 1 0 r.2.2.ring.length, .d (.int .i64 r.2.2.first), .d (.int .i64 r.2.2.n_), .d (.int .i64 r.2.2.lost)]), (1, .lst true (some 3) (List.map eapi_Item r.2.2.ring))]) 3 := by
  refine SCall.introN (bl := [(0, .var [.loc 1 0 a0.ring.length, .d (.int .i64 a0.first), .d (.int .i64 a0.n_), .d (.int .i64 a0.lost)]), (1, .lst true (some 3) (List.map eapi_Item a0.ring))]) (bl' := [(0, .var [.loc 1 0 r.2.2.ring.length, .d (.int .i64 r.2.2.first), .d (.int .i64 r.2.2.n_), .d (.int .i64 r.2.2.lost)]), (1, .lst true (some 3) (List.map eapi_Item r.2.2.ring))]) ok17 (show 1 ≤ 36 by decide) rfl ?_
  refine NWp.norm (s0 := ⟨tab [(0, .ptr 0 0 0)], stab [(0, .var [.loc 1 0 a0.ring.length, .d (.int .i64 a0.first), .d (.int .i64 a0.n_), .d (.int .i64 a0.lost)]), (1, .lst true (some 3) (List.map eapi_Item a0.ring))], 2⟩) (Norm.mk [0, 1] (by decide) (by decide) (by decide) ⟨.ptr 0 _ _ (show 0 < 2 by decide), trivial⟩ ⟨⟨show 0 < 2 by decide, _, rfl, .vars ⟨.loc 1 _ _ (show 1 < 2 by decide), .d _, .d _, .d _, trivial⟩⟩, ⟨show 1 < 2 by decide, _, rfl, .lst _ _ _⟩, trivial⟩) ?_
  refine NWp.opsJ ⟨tab [(0, .ptr 0 0 0), (2, .ptr 2 0 0)], stab [(0, .var [.loc 1 0 a0.ring.length, .d (.int .i64 a0.first), .d (.int .i64 a0.n_), .d (.int .i64 a0.lost)]), (1, .lst true (some 3) (List.map eapi_Item a0.ring)), (2, .var [.d (.int .u16 0), .d (.str (⟨#[]⟩ : ByteArray)), .d (.int .i64 0)])], 3⟩ ?_ ?_
  · refine step (v := .ptr 2 0 0) (σ' := (upd (stab [(0, .var [.loc 1 0 a0.ring.length, .d (.int .i64 a0.first), .d (.int .i64 a0.n_), .d (.int .i64 a0.lost)]), (1, .lst true (some 3) (List.map eapi_Item a0.ring))]) 2 (some (.var [.d (.int .u16 0), .d (.str (⟨#[]⟩ : ByteArray)), .d (.int .i64 0)])))) (n' := 3) rfl ?_
    refine step (v := .d (.bool false)) rfl ?_
    exact RunOps.nil' (Norm.mk [0, 1, 2] (by decide) (by decide) (by decide) ⟨.ptr 0 _ _ (show 0 < 3 by decide), .ptr 2 _ _ (show 2 < 3 by decide), trivial⟩ ⟨⟨show 0 < 3 by decide, _, rfl, .vars ⟨.loc 1 _ _ (show 1 < 3 by decide), .d _, .d _, .d _, trivial⟩⟩, ⟨show 1 < 3 by decide, _, rfl, .lst _ _ _⟩, ⟨show 2 < 3 by decide, _, rfl, .vars ⟨.d _, .d _, .d _, trivial⟩⟩, trivial⟩)
  obtain ⟨r1, hr1, h⟩ := bindE h
  refine NWp.opsJ ⟨tab [(0, .ptr 0 0 0), (2, .ptr 2 0 0), (4, .ptr 3 0 0), (5, .d (.bool r1.2))], stab [(0, .var [.loc 1 0 a0.ring.length, .d (.int .i64 a0.first), .d (.int .i64 a0.n_), .d (.int .i64 a0.lost)]), (1, .lst true (some 3) (List.map eapi_Item a0.ring)), (2, .var [.d (.int .u16 0), .d (.str (⟨#[]⟩ : ByteArray)), .d (.int .i64 0)]), (3, .var [.d (.int .u16 r1.1.Pt), .d (.str r1.1.Raw), .d (.int .i64 r1.1.N)])], 4⟩ ?_ ?_
  · refine step (v := .ptr 0 0 0) rfl ?_
    refine stepW (v := .d (.tup [eapi_Item r1.1, .bool r1.2])) (σ' := _) (n' := _) (PCall.borrow (c_queue_Queue_At hr1) rfl (ViewsB.c (viewB_var rfl (ViewsB.c (viewB_all (xs := a0.ring) (e := eapi_Item) rfl rfl) (ViewsB.c (.d _) (ViewsB.c (.d _) (ViewsB.c (.d _) ViewsB.nil0))))) (ViewsB.c (.d _) ViewsB.nil0))) (Nat.le_refl _) ?_
    refine step (v := .d (.tup [eapi_Item r1.1, .bool r1.2])) rfl ?_
    refine step (v := .d (eapi_Item r1.1)) rfl ?_
    refine step (v := .d (.bool r1.2)) rfl ?_
    refine step (v := .ptr 3 0 0) (σ' := (upd (stab [(0, .var [.loc 1 0 a0.ring.length, .d (.int .i64 a0.first), .d (.int .i64 a0.n_), .d (.int .i64 a0.lost)]), (1, .lst true (some 3) (List.map eapi_Item a0.ring)), (2, .var [.d (.int .u16 0), .d (.str (⟨#[]⟩ : ByteArray)), .d (.int .i64 0)])]) 3 (some (.var [.d (.int .u16 0), .d (.str (⟨#[]⟩ : ByteArray)), .d (.int .i64 0)])))) (n' := 4) rfl ?_
    refine step (v := V.undef) (σ' := (upd (upd (stab [(0, .var [.loc 1 0 a0.ring.length, .d (.int .i64 a0.first), .d (.int .i64 a0.n_), .d (.int .i64 a0.lost)]), (1, .lst true (some 3) (List.map eapi_Item a0.ring)), (2, .var [.d (.int .u16 0), .d (.str (⟨#[]⟩ : ByteArray)), .d (.int .i64 0)])]) 3 (some (.var [.d (.int .u16 0), .d (.str (⟨#[]⟩ : ByteArray)), .d (.int .i64 0)]))) 3 (some (.var [.d (.int .u16 r1.1.Pt), .d (.str r1.1.Raw), .d (.int .i64 r1.1.N)])))) (n' := 4) rfl ?_
    refine step (v := .d (.bool r1.2)) rfl ?_
    exact RunOps.nil' (Norm.mk [0, 1, 2, 3] (by decide) (by decide) (by decide) ⟨.ptr 0 _ _ (show 0 < 4 by decide), .ptr 2 _ _ (show 2 < 4 by decide), .ptr 3 _ _ (show 3 < 4 by decide), .d _, trivial⟩ ⟨⟨show 0 < 4 by decide, _, rfl, .vars ⟨.loc 1 _ _ (show 1 < 4 by decide), .d _, .d _, .d _, trivial⟩⟩, ⟨show 1 < 4 by decide, _, rfl, .lst _ _ _⟩, ⟨show 2 < 4 by decide, _, rfl, .vars ⟨.d _, .d _, .d _, trivial⟩⟩, ⟨show 3 < 4 by decide, _, rfl, .vars ⟨.d _, .d _, .d _, trivial⟩⟩, trivial⟩)
  obtain ⟨q9, hv, h⟩ := bindE h
  obtain ⟨l6, y7, y8⟩ := q9
  refine NWp.seqN ⟨tab [(2, .ptr 2 0 0), (4, .ptr 3 0 0), (5, .d (.bool r1.2))], stab [(0, .var [.loc 1 0 l6.length, .d (.int .i64 y7), .d (.int .i64 y8), .d (.int .i64 a0.lost)]), (1, .lst true (some 3) (List.map eapi_Item l6)), (2, .var [.d (.int .u16 0), .d (.str (⟨#[]⟩ : ByteArray)), .d (.int .i64 0)]), (3, .var [.d (.int .u16 r1.1.Pt), .d (.str r1.1.Raw), .d (.int .i64 r1.1.N)])], 4⟩ ?_ ?_
  · replace h := hv
    refine NWp.opsJ ⟨tab [(0, .ptr 0 0 0), (2, .ptr 2 0 0), (4, .ptr 3 0 0), (5, .d (.bool r1.2)), (11, .d (.bool r1.2))], stab [(0, .var [.loc 1 0 a0.ring.length, .d (.int .i64 a0.first), .d (.int .i64 a0.n_), .d (.int .i64 a0.lost)]), (1, .lst true (some 3) (List.map eapi_Item a0.ring)), (2, .var [.d (.int .u16 0), .d (.str (⟨#[]⟩ : ByteArray)), .d (.int .i64 0)]), (3, .var [.d (.int .u16 r1.1.Pt), .d (.str r1.1.Raw), .d (.int .i64 r1.1.N)])], 4⟩ ?_ ?_
    · refine step (v := .d (.bool r1.2)) rfl ?_
      exact RunOps.nil' (Norm.mk [0, 1, 2, 3] (by decide) (by decide) (by decide) ⟨.ptr 0 _ _ (show 0 < 4 by decide), .ptr 2 _ _ (show 2 < 4 by decide), .ptr 3 _ _ (show 3 < 4 by decide), .d _, .d _, trivial⟩ ⟨⟨show 0 < 4 by decide, _, rfl, .vars ⟨.loc 1 _ _ (show 1 < 4 by decide), .d _, .d _, .d _, trivial⟩⟩, ⟨show 1 < 4 by decide, _, rfl, .lst _ _ _⟩, ⟨show 2 < 4 by decide, _, rfl, .vars ⟨.d _, .d _, .d _, trivial⟩⟩, ⟨show 3 < 4 by decide, _, rfl, .vars ⟨.d _, .d _, .d _, trivial⟩⟩, trivial⟩)
    by_cases hc2 : r1.2 = true
    · replace h := iteT hc2 h
      refine NWp.condT (t := r1.2) rfl hc2 ?_
      obtain ⟨x3, hx3, h⟩ := bindE h
      obtain ⟨l4, hl4, h⟩ := bindE h
      refine NWp.opsJ ⟨tab [(0, .ptr 0 0 0), (2, .ptr 2 0 0), (4, .ptr 3 0 0), (5, .d (.bool r1.2))], stab [(0, .var [.loc 1 0 l4.length, .d (.int .i64 a0.first), .d (.int .i64 a0.n_), .d (.int .i64 a0.lost)]), (1, .lst true (some 3) (List.map eapi_Item l4)), (2, .var [.d (.int .u16 0), .d (.str (⟨#[]⟩ : ByteArray)), .d (.int .i64 0)]), (3, .var [.d (.int .u16 r1.1.Pt), .d (.str r1.1.Raw), .d (.int .i64 r1.1.N)])], 4⟩ ?_ ?_
      · refine step (v := .ptr 0 0 0) rfl ?_
        refine step (v := .ptr 0 0 0) rfl ?_
        refine step (v := .ptr 0 0 0) rfl ?_
        refine step (v := .loc 1 0 a0.ring.length) rfl ?_
        refine step (v := .ptr 0 0 0) rfl ?_
        refine step (v := .ptr 0 0 0) rfl ?_
        refine step (v := .ptr 0 0 1) rfl ?_
        refine step (v := .d (.int .i64 a0.first)) rfl ?_
        refine step (v := .d (eapi_Item (api_Item.mk 0 (⟨#[]⟩ : ByteArray) 0))) (st_build (ds := [.int .u16 0, .str (⟨#[]⟩ : ByteArray), .int .i64 0]) rfl) ?_
        refine step (v := .ptr 1 a0.first.toNat 0) (st_iaddrL (xs := a0.ring) (e := eapi_Item) hx3 rfl rfl rfl rfl) ?_
        refine step (v := V.undef) (σ' := (upd (stab [(0, .var [.loc 1 0 a0.ring.length, .d (.int .i64 a0.first), .d (.int .i64 a0.n_), .d (.int .i64 a0.lost)]), (1, .lst true (some 3) (List.map eapi_Item a0.ring)), (2, .var [.d (.int .u16 0), .d (.str (⟨#[]⟩ : ByteArray)), .d (.int .i64 0)]), (3, .var [.d (.int .u16 r1.1.Pt), .d (.str r1.1.Raw), .d (.int .i64 r1.1.N)])]) 1 (some (.lst true (some 3) (List.map eapi_Item l4))))) (n' := 4) (st_storeL' (e := eapi_Item) (v' := (api_Item.mk 0 (⟨#[]⟩ : ByteArray) 0)) hl4 rfl rfl rfl rfl rfl) ?_
        exact RunOps.nil' (Norm.mk [0, 1, 2, 3] (by decide) (by decide) (by decide) ⟨.ptr 0 _ _ (show 0 < 4 by decide), .ptr 2 _ _ (show 2 < 4 by decide), .ptr 3 _ _ (show 3 < 4 by decide), .d _, trivial⟩ ⟨⟨show 0 < 4 by decide, _, rfl, .vars ⟨.le (id := 1) (gput_len hl4).symm (show 1 < 4 by decide), .d _, .d _, .d _, trivial⟩⟩, ⟨show 1 < 4 by decide, _, rfl, .lst _ _ _⟩, ⟨show 2 < 4 by decide, _, rfl, .vars ⟨.d _, .d _, .d _, trivial⟩⟩, ⟨show 3 < 4 by decide, _, rfl, .vars ⟨.d _, .d _, .d _, trivial⟩⟩, trivial⟩)
      obtain ⟨r5, hr5, h⟩ := bindE h
      refine NWp.opsJ ⟨tab [(0, .ptr 0 0 0), (2, .ptr 2 0 0), (4, .ptr 3 0 0), (5, .d (.bool r1.2))], stab [(0, .var [.loc 1 0 l4.length, .d (.int .i64 r5), .d (.int .i64 a0.n_), .d (.int .i64 a0.lost)]), (1, .lst true (some 3) (List.map eapi_Item l4)), (2, .var [.d (.int .u16 0), .d (.str (⟨#[]⟩ : ByteArray)), .d (.int .i64 0)]), (3, .var [.d (.int .u16 r1.1.Pt), .d (.str r1.1.Raw), .d (.int .i64 r1.1.N)])], 4⟩ ?_ ?_
      · refine step (v := .ptr 0 0 0) rfl ?_
        refine step (v := .ptr 0 0 0) rfl ?_
        refine stepW (v := .d (.int .i64 r5)) (σ' := _) (n' := _) (PCall.borrow (c_queue_Queue_place hr5) rfl (ViewsB.c (viewB_var rfl (ViewsB.c (viewB_all (xs := l4) (e := eapi_Item) rfl rfl) (ViewsB.c (.d _) (ViewsB.c (.d _) (ViewsB.c (.d _) ViewsB.nil0))))) (ViewsB.c (.d _) ViewsB.nil0))) (Nat.le_refl _) ?_
        refine step (v := .ptr 0 0 0) rfl ?_
        refine step (v := .ptr 0 0 1) rfl ?_
        refine step (v := V.undef) (σ' := (upd (stab [(0, .var [.loc 1 0 l4.length, .d (.int .i64 a0.first), .d (.int .i64 a0.n_), .d (.int .i64 a0.lost)]), (1, .lst true (some 3) (List.map eapi_Item l4)), (2, .var [.d (.int .u16 0), .d (.str (⟨#[]⟩ : ByteArray)), .d (.int .i64 0)]), (3, .var [.d (.int .u16 r1.1.Pt), .d (.str r1.1.Raw), .d (.int .i64 r1.1.N)])]) 0 (some (.var [.loc 1 0 l4.length, .d (.int .i64 r5), .d (.int .i64 a0.n_), .d (.int .i64 a0.lost)])))) (n' := 4) rfl ?_
        exact RunOps.nil' (Norm.mk [0, 1, 2, 3] (by decide) (by decide) (by decide) ⟨.ptr 0 _ _ (show 0 < 4 by decide), .ptr 2 _ _ (show 2 < 4 by decide), .ptr 3 _ _ (show 3 < 4 by decide), .d _, trivial⟩ ⟨⟨show 0 < 4 by decide, _, rfl, .vars ⟨.loc 1 _ _ (show 1 < 4 by decide), .d _, .d _, .d _, trivial⟩⟩, ⟨show 1 < 4 by decide, _, rfl, .lst _ _ _⟩, ⟨show 2 < 4 by decide, _, rfl, .vars ⟨.d _, .d _, .d _, trivial⟩⟩, ⟨show 3 < 4 by decide, _, rfl, .vars ⟨.d _, .d _, .d _, trivial⟩⟩, trivial⟩)
      have hh := Option.some.inj h
      obtain ⟨he0, ht0⟩ := Prod.mk.inj hh
      obtain ⟨he1, ht1⟩ := Prod.mk.inj ht0
      subst he0
      subst he1
      subst ht1
      refine NWp.opsE ⟨tab [(2, .ptr 2 0 0), (4, .ptr 3 0 0), (5, .d (.bool r1.2))], stab [(0, .var [.loc 1 0 l4.length, .d (.int .i64 r5), .d (.int .i64 (IntKind.i64.wrap (a0.n_ - 1))), .d (.int .i64 a0.lost)]), (1, .lst true (some 3) (List.map eapi_Item l4)), (2, .var [.d (.int .u16 0), .d (.str (⟨#[]⟩ : ByteArray)), .d (.int .i64 0)]), (3, .var [.d (.int .u16 r1.1.Pt), .d (.str r1.1.Raw), .d (.int .i64 r1.1.N)])], 4⟩ ?_ ?_
      · refine step (v := .ptr 0 0 0) rfl ?_
        refine step (v := .ptr 0 0 0) rfl ?_
        refine step (v := .ptr 0 0 2) rfl ?_
        refine step (v := .d (.int .i64 a0.n_)) rfl ?_
        refine step (v := .d (.int .i64 (IntKind.i64.wrap (a0.n_ - 1)))) rfl ?_
        refine step (v := .ptr 0 0 0) rfl ?_
        refine step (v := .ptr 0 0 2) rfl ?_
        refine step (v := V.undef) (σ' := (upd (stab [(0, .var [.loc 1 0 l4.length, .d (.int .i64 r5), .d (.int .i64 a0.n_), .d (.int .i64 a0.lost)]), (1, .lst true (some 3) (List.map eapi_Item l4)), (2, .var [.d (.int .u16 0), .d (.str (⟨#[]⟩ : ByteArray)), .d (.int .i64 0)]), (3, .var [.d (.int .u16 r1.1.Pt), .d (.str r1.1.Raw), .d (.int .i64 r1.1.N)])]) 0 (some (.var [.loc 1 0 l4.length, .d (.int .i64 r5), .d (.int .i64 (IntKind.i64.wrap (a0.n_ - 1))), .d (.int .i64 a0.lost)])))) (n' := 4) rfl ?_
        exact RunOps.nil' (Norm.mk [0, 1, 2, 3] (by decide) (by decide) (by decide) ⟨.ptr 2 _ _ (show 2 < 4 by decide), .ptr 3 _ _ (show 3 < 4 by decide), .d _, trivial⟩ ⟨⟨show 0 < 4 by decide, _, rfl, .vars ⟨.loc 1 _ _ (show 1 < 4 by decide), .d _, .d _, .d _, trivial⟩⟩, ⟨show 1 < 4 by decide, _, rfl, .lst _ _ _⟩, ⟨show 2 < 4 by decide, _, rfl, .vars ⟨.d _, .d _, .d _, trivial⟩⟩, ⟨show 3 < 4 by decide, _, rfl, .vars ⟨.d _, .d _, .d _, trivial⟩⟩, trivial⟩)
      exact And.intro rfl rfl
    · replace h := iteF hc2 h
      refine NWp.condF (t := r1.2) rfl hc2 ?_
      have hh := Option.some.inj h
      obtain ⟨he0, ht0⟩ := Prod.mk.inj hh
      obtain ⟨he1, ht1⟩ := Prod.mk.inj ht0
      subst he0
      subst he1
      subst ht1
      refine NWp.norm (s0 := ⟨tab [(2, .ptr 2 0 0), (4, .ptr 3 0 0), (5, .d (.bool r1.2))], stab [(0, .var [.loc 1 0 a0.ring.length, .d (.int .i64 a0.first), .d (.int .i64 a0.n_), .d (.int .i64 a0.lost)]), (1, .lst true (some 3) (List.map eapi_Item a0.ring)), (2, .var [.d (.int .u16 0), .d (.str (⟨#[]⟩ : ByteArray)), .d (.int .i64 0)]), (3, .var [.d (.int .u16 r1.1.Pt), .d (.str r1.1.Raw), .d (.int .i64 r1.1.N)])], 4⟩) (Norm.mk [0, 1, 2, 3] (by decide) (by decide) (by decide) ⟨.ptr 2 _ _ (show 2 < 4 by decide), .ptr 3 _ _ (show 3 < 4 by decide), .d _, trivial⟩ ⟨⟨show 0 < 4 by decide, _, rfl, .vars ⟨.loc 1 _ _ (show 1 < 4 by decide), .d _, .d _, .d _, trivial⟩⟩, ⟨show 1 < 4 by decide, _, rfl, .lst _ _ _⟩, ⟨show 2 < 4 by decide, _, rfl, .vars ⟨.d _, .d _, .d _, trivial⟩⟩, ⟨show 3 < 4 by decide, _, rfl, .vars ⟨.d _, .d _, .d _, trivial⟩⟩, trivial⟩) ?_
      refine NWp.skip ?_
      exact And.intro rfl rfl
  refine NWp.opsJ ⟨tab [(2, .ptr 2 0 0), (3, .d (.bool r1.2))], stab [(0, .var [.loc 1 0 l6.length, .d (.int .i64 y7), .d (.int .i64 y8), .d (.int .i64 a0.lost)]), (1, .lst true (some 3) (List.map eapi_Item l6)), (2, .var [.d (.int .u16 r1.1.Pt), .d (.str r1.1.Raw), .d (.int .i64 r1.1.N)])], 3⟩ ?_ ?_
  · refine step (v := .d (eapi_Item r1.1)) (st_ldV (ds := [.int .u16 r1.1.Pt, .str r1.1.Raw, .int .i64 r1.1.N]) rfl rfl (show 3 ≤ 3 by decide) rfl) ?_
    refine step (v := .d (.bool r1.2)) rfl ?_
    refine step (v := V.undef) (σ' := (upd (stab [(0, .var [.loc 1 0 l6.length, .d (.int .i64 y7), .d (.int .i64 y8), .d (.int .i64 a0.lost)]), (1, .lst true (some 3) (List.map eapi_Item l6)), (2, .var [.d (.int .u16 0), .d (.str (⟨#[]⟩ : ByteArray)), .d (.int .i64 0)]), (3, .var [.d (.int .u16 r1.1.Pt), .d (.str r1.1.Raw), .d (.int .i64 r1.1.N)])]) 2 (some (.var [.d (.int .u16 r1.1.Pt), .d (.str r1.1.Raw), .d (.int .i64 r1.1.N)])))) (n' := 4) rfl ?_
    refine step (v := .d (.bool r1.2)) rfl ?_
    exact RunOps.nil' (Norm.mk [0, 1, 2] (by decide) (by decide) (by decide) ⟨.ptr 2 _ _ (show 2 < 3 by decide), .d _, trivial⟩ ⟨⟨show 0 < 3 by decide, _, rfl, .vars ⟨.loc 1 _ _ (show 1 < 3 by decide), .d _, .d _, .d _, trivial⟩⟩, ⟨show 1 < 3 by decide, _, rfl, .lst _ _ _⟩, ⟨show 2 < 3 by decide, _, rfl, .vars ⟨.d _, .d _, .d _, trivial⟩⟩, trivial⟩)
  have hh := Option.some.inj h
  subst hh
  refine NWp.ret ?_
  exact ⟨.inr rfl, _, rfl, rfl, AllS.sub ⟨rfl, rfl, trivial⟩, rfl⟩

theorem c_queue_Queue_Len {a0 : queue_Queue} {r : Int} (h : queue_Queue_Len a0 = some r) : PCall Try.prog 18 [.cptr (some 4) (equeue_Queue a0) 0] (.int .i64 r) := by
  refine PCall.introN ok18 (show 1 ≤ 9 by decide) ?_
  refine NWp.norm (s0 := ⟨tab [(0, .d (.cptr (some 4) (equeue_Queue a0) 0))], stab [], 0⟩) (Norm.mk [] (by decide) (by decide) (by decide) ⟨.d _, trivial⟩ trivial) ?_
  refine NWp.opsJ ⟨tab [(0, .d (.cptr (some 4) (equeue_Queue a0) 0))], stab [], 0⟩ ?_ ?_
  · refine step (v := .d (.int .i64 0)) rfl ?_
    exact RunOps.nil' (Norm.mk [] (by decide) (by decide) (by decide) ⟨.d _, trivial⟩ trivial)
  refine NWp.seq ?_
  refine NWp.opsJ ⟨tab [(0, .d (.cptr (some 4) (equeue_Queue a0) 0)), (4, .d (.bool false))], stab [], 0⟩ ?_ ?_
  · refine step (v := .d (.cptr (some 4) (equeue_Queue a0) 0)) rfl ?_
    refine step (v := .d (.bool false)) rfl ?_
    exact RunOps.nil' (Norm.mk [] (by decide) (by decide) (by decide) ⟨.d _, .d _, trivial⟩ trivial)
  refine NWp.condF (t := false) rfl (by decide) ?_
  refine NWp.skip ?_
  refine NWp.opsJ ⟨tab [(2, .d (.int .i64 a0.n_))], stab [], 0⟩ ?_ ?_
  · refine step (v := .d (.cptr (some 4) (equeue_Queue a0) 0)) rfl ?_
    refine step (v := .d (.cptr (some 4) (equeue_Queue a0) 0)) rfl ?_
    refine step (v := .d (.cptr (some 4) (equeue_Queue a0) 2)) rfl ?_
    refine step (v := .d (.int .i64 a0.n_)) rfl ?_
    refine step (v := .d (.int .i64 a0.n_)) rfl ?_
    exact RunOps.nil' (Norm.mk [] (by decide) (by decide) (by decide) ⟨.d _, trivial⟩ trivial)
  have hh := Option.some.inj h
  subst hh
  refine NWp.ret ?_
  show FQ _ _ _ _
  exact FQ.mk1 (.inr rfl) (res_t (v := .d (.int .i64 a0.n_)) rfl rfl) (RV.d trivial)

theorem c_queue_Queue_Lost {a0 : queue_Queue} {r : Int} (h : queue_Queue_Lost a0 = some r) : PCall Try.prog 19 [.cptr (some 4) (equeue_Queue a0) 0] (.int .i64 r) := by
  refine PCall.introN ok19 (show 1 ≤ 9 by decide) ?_
  refine NWp.norm (s0 := ⟨tab [(0, .d (.cptr (some 4) (equeue_Queue a0) 0))], stab [], 0⟩) (Norm.mk [] (by decide) (by decide) (by decide) ⟨.d _, trivial⟩ trivial) ?_
  refine NWp.opsJ ⟨tab [(0, .d (.cptr (some 4) (equeue_Queue a0) 0))], stab [], 0⟩ ?_ ?_
  · refine step (v := .d (.int .i64 0)) rfl ?_
    exact RunOps.nil' (Norm.mk [] (by decide) (by decide) (by decide) ⟨.d _, trivial⟩ trivial)
  refine NWp.seq ?_
  refine NWp.opsJ ⟨tab [(0, .d (.cptr (some 4) (equeue_Queue a0) 0)), (4, .d (.bool false))], stab [], 0⟩ ?_ ?_
  · refine step (v := .d (.cptr (some 4) (equeue_Queue a0) 0)) rfl ?_
    refine step (v := .d (.bool false)) rfl ?_
    exact RunOps.nil' (Norm.mk [] (by decide) (by decide) (by decide) ⟨.d _, .d _, trivial⟩ trivial)
  refine NWp.condF (t := false) rfl (by decide) ?_
  refine NWp.skip ?_
  refine NWp.opsJ ⟨tab [(2, .d (.int .i64 a0.lost))], stab [], 0⟩ ?_ ?_
  · refine step (v := .d (.cptr (some 4) (equeue_Queue a0) 0)) rfl ?_
    refine step (v := .d (.cptr (some 4) (equeue_Queue a0) 0)) rfl ?_
    refine step (v := .d (.cptr (some 4) (equeue_Queue a0) 3)) rfl ?_
    refine step (v := .d (.int .i64 a0.lost)) rfl ?_
    refine step (v := .d (.int .i64 a0.lost)) rfl ?_
    exact RunOps.nil' (Norm.mk [] (by decide) (by decide) (by decide) ⟨.d _, trivial⟩ trivial)
  have hh := Option.some.inj h
  subst hh
  refine NWp.ret ?_
  show FQ _ _ _ _
  exact FQ.mk1 (.inr rfl) (res_t (v := .d (.int .i64 a0.lost)) rfl rfl) (RV.d trivial)

theorem c_law16_awake  {r : Bool} (h : law16_awake  = some r) : PCall Try.prog 11 [] (.bool r) := by
  refine PCall.introN ok11 (show 0 ≤ 50 by decide) ?_
  refine NWp.norm (s0 := ⟨tab [], stab [], 0⟩) (Norm.mk [] (by decide) (by decide) (by decide) trivial trivial) ?_
  refine NWp.opsJ ⟨tab [], stab [], 0⟩ ?_ ?_
  · refine step (v := .d (.bool false)) rfl ?_
    exact RunOps.nil' (Norm.mk [] (by decide) (by decide) (by decide) trivial trivial)
  obtain ⟨r1, hr1, h⟩ := bindE h
  refine NWp.opsJ ⟨tab [(1, .ptr 0 0 0)], stab [(0, .var [.loc 1 0 r1.ring.length, .d (.int .i64 r1.first), .d (.int .i64 r1.n_), .d (.int .i64 r1.lost)]), (1, .lst true (some 3) (List.map eapi_Item r1.ring))], 2⟩ ?_ ?_
  · refine stepW (v := .ptr 0 0 0) (σ' := (upd (upd (stab []) 1 (some (.lst true (some 3) (List.map eapi_Item r1.ring)))) 0 (some (.var [.loc 1 0 r1.ring.length, .d (.int .i64 r1.first), .d (.int .i64 r1.n_), .d (.int .i64 r1.lost)])))) (n' := 2) (SCall.lift [] (c_queue_New hr1) (show 0 ≤ 2 by decide) (by decide) (show ∀ i ∈ [], i < 0 by decide) (dom_c (show 0 < 2 by decide) (dom_c (show 1 < 2 by decide) dom_n)) (VNs.c (.d _) VNs.nil0) SN.nil0) (show 0 ≤ 2 by decide) ?_
    refine step (v := .ptr 0 0 0) rfl ?_
    exact RunOps.nil' (Norm.mk [0, 1] (by decide) (by decide) (by decide) ⟨.ptr 0 _ _ (show 0 < 2 by decide), trivial⟩ ⟨⟨show 0 < 2 by decide, _, rfl, .vars ⟨.loc 1 _ _ (show 1 < 2 by decide), .d _, .d _, .d _, trivial⟩⟩, ⟨show 1 < 2 by decide, _, rfl, .lst _ _ _⟩, trivial⟩)
  obtain ⟨r2, hr2, h⟩ := bindE h
  obtain ⟨r3, hr3, h⟩ := bindE h
  obtain ⟨r4, hr4, h⟩ := bindE h
  refine NWp.opsJ ⟨tab [(1, .ptr 0 0 0), (2, .d (.int .i64 r2.1)), (3, .d (.int .i64 r3.1)), (4, .d (.int .i64 r4.1))], stab [(0, .var [.loc 1 0 r4.2.ring.length, .d (.int .i64 r4.2.first), .d (.int .i64 r4.2.n_), .d (.int .i64 r4.2.lost)]), (1, .lst true (some 3) (List.map eapi_Item r4.2.ring))], 2⟩ ?_ ?_
  · refine step (v := .ptr 0 0 0) rfl ?_
    refine step (v := .d (eapi_Item (api_Item.mk 0 (⟨#[]⟩ : ByteArray) 1))) (st_build (ds := [.int .u16 0, .str (⟨#[]⟩ : ByteArray), .int .i64 1]) rfl) ?_
    refine stepW (v := .d (.int .i64 r2.1)) (σ' := (upd (upd (upd (upd (stab [(0, .var [.loc 1 0 r1.ring.length, .d (.int .i64 r1.first), .d (.int .i64 r1.n_), .d (.int .i64 r1.lost)]), (1, .lst true (some 3) (List.map eapi_Item r1.ring))]) 1 none) 0 none) 1 (some (.lst true (some 3) (List.map eapi_Item r2.2.ring)))) 0 (some (.var [.loc 1 0 r2.2.ring.length, .d (.int .i64 r2.2.first), .d (.int .i64 r2.2.n_), .d (.int .i64 r2.2.lost)])))) (n' := 2) (SCall.lift [0, 1] (c_queue_Queue_Push hr2) (show 2 ≤ 2 by decide) (by decide) (show ∀ i ∈ [0, 1], i < 2 by decide) (dom_c (show 0 < 2 by decide) (dom_c (show 1 < 2 by decide) dom_n)) (VNs.c (.ptr 0 _ _ (show 0 < 2 by decide)) (VNs.c (.d _) VNs.nil0)) (SN.c (show 0 < 2 by decide) rfl (.vars (VNs.c (.loc 1 _ _ (show 1 < 2 by decide)) (VNs.c (.d _) (VNs.c (.d _) (VNs.c (.d _) VNs.nil0))))) (SN.c (show 1 < 2 by decide) rfl (.lst _ _ _) SN.nil0))) (show 2 ≤ 2 by decide) ?_
    refine step (v := .ptr 0 0 0) rfl ?_
    refine step (v := .d (eapi_Item (api_Item.mk 0 (⟨#[]⟩ : ByteArray) 2))) (st_build (ds := [.int .u16 0, .str (⟨#[]⟩ : ByteArray), .int .i64 2]) rfl) ?_
    refine stepW (v := .d (.int .i64 r3.1)) (σ' := (upd (upd (upd (upd (upd (upd (upd (upd (stab [(0, .var [.loc 1 0 r1.ring.length, .d (.int .i64 r1.first), .d (.int .i64 r1.n_), .d (.int .i64 r1.lost)]), (1, .lst true (some 3) (List.map eapi_Item r1.ring))]) 1 none) 0 none) 1 (some (.lst true (some 3) (List.map eapi_Item r2.2.ring)))) 0 (some (.var [.loc 1 0 r2.2.ring.length, .d (.int .i64 r2.2.first), .d (.int .i64 r2.2.n_), .d (.int .i64 r2.2.lost)]))) 1 none) 0 none) 1 (some (.lst true (some 3) (List.map eapi_Item r3.2.ring)))) 0 (some (.var [.loc 1 0 r3.2.ring.length, .d (.int .i64 r3.2.first), .d (.int .i64 r3.2.n_), .d (.int .i64 r3.2.lost)])))) (n' := 2) (SCall.lift [0, 1] (c_queue_Queue_Push hr3) (show 2 ≤ 2 by decide) (by decide) (show ∀ i ∈ [0, 1], i < 2 by decide) (dom_c (show 0 < 2 by decide) (dom_c (show 1 < 2 by decide) dom_n)) (VNs.c (.ptr 0 _ _ (show 0 < 2 by decide)) (VNs.c (.d _) VNs.nil0)) (SN.c (show 0 < 2 by decide) rfl (.vars (VNs.c (.loc 1 _ _ (show 1 < 2 by decide)) (VNs.c (.d _) (VNs.c (.d _) (VNs.c (.d _) VNs.nil0))))) (SN.c (show 1 < 2 by decide) rfl (.lst _ _ _) SN.nil0))) (show 2 ≤ 2 by decide) ?_
    refine step (v := .ptr 0 0 0) rfl ?_
    refine step (v := .d (eapi_Item (api_Item.mk 0 (⟨#[]⟩ : ByteArray) 3))) (st_build (ds := [.int .u16 0, .str (⟨#[]⟩ : ByteArray), .int .i64 3]) rfl) ?_
    refine stepW (v := .d (.int .i64 r4.1)) (σ' := (upd (upd (upd (upd (upd (upd (upd (upd (upd (upd (upd (upd (stab [(0, .var [.loc 1 0 r1.ring.length, .d (.int .i64 r1.first), .d (.int .i64 r1.n_), .d (.int .i64 r1.lost)]), (1, .lst true (some 3) (List.map eapi_Item r1.ring))]) 1 none) 0 none) 1 (some (.lst true (some 3) (List.map eapi_Item r2.2.ring)))) 0 (some (.var [.loc 1 0 r2.2.ring.length, .d (.int .i64 r2.2.first), .d (.int .i64 r2.2.n_), .d (.int .i64 r2.2.lost)]))) 1 none) 0 none) 1 (some (.lst true (some 3) (List.map eapi_Item r3.2.ring)))) 0 (some (.var [.loc 1 0 r3.2.ring.length, .d (.int .i64 r3.2.first), .d (.int .i64 r3.2.n_), .d (.int .i64 r3.2.lost)]))) 1 none) 0 none) 1 (some (.lst true (some 3) (List.map eapi_Item r4.2.ring)))) 0 (some (.var [.loc 1 0 r4.2.ring.length, .d (.int .i64 r4.2.first), .d (.int .i64 r4.2.n_), .d (.int .i64 r4.2.lost)])))) (n' := 2) (SCall.lift [0, 1] (c_queue_Queue_Push hr4) (show 2 ≤ 2 by decide) (by decide) (show ∀ i ∈ [0, 1], i < 2 by decide) (dom_c (show 0 < 2 by decide) (dom_c (show 1 < 2 by decide) dom_n)) (VNs.c (.ptr 0 _ _ (show 0 < 2 by decide)) (VNs.c (.d _) VNs.nil0)) (SN.c (show 0 < 2 by decide) rfl (.vars (VNs.c (.loc 1 _ _ (show 1 < 2 by decide)) (VNs.c (.d _) (VNs.c (.d _) (VNs.c (.d _) VNs.nil0))))) (SN.c (show 1 < 2 by decide) rfl (.lst _ _ _) SN.nil0))) (show 2 ≤ 2 by decide) ?_
    refine step (v := .d (.int .i64 r2.1)) rfl ?_
    refine step (v := .d (.int .i64 r3.1)) rfl ?_
    refine step (v := .d (.int .i64 r4.1)) rfl ?_
    exact RunOps.nil' (Norm.mk [0, 1] (by decide) (by decide) (by decide) ⟨.ptr 0 _ _ (show 0 < 2 by decide), .d _, .d _, .d _, trivial⟩ ⟨⟨show 0 < 2 by decide, _, rfl, .vars ⟨.loc 1 _ _ (show 1 < 2 by decide), .d _, .d _, .d _, trivial⟩⟩, ⟨show 1 < 2 by decide, _, rfl, .lst _ _ _⟩, trivial⟩)
  obtain ⟨r5, hr5, h⟩ := bindE h
  refine NWp.opsJ ⟨tab [(1, .ptr 0 0 0), (2, .d (.int .i64 r2.1)), (3, .d (.int .i64 r3.1)), (4, .d (.int .i64 r4.1)), (5, .ptr 2 0 0), (6, .d (.bool r5.2.1))], stab [(0, .var [.loc 1 0 r5.2.2.ring.length, .d (.int .i64 r5.2.2.first), .d (.int .i64 r5.2.2.n_), .d (.int .i64 r5.2.2.lost)]), (1, .lst true (some 3) (List.map eapi_Item r5.2.2.ring)), (2, .var [.d (.int .u16 r5.1.Pt), .d (.str r5.1.Raw), .d (.int .i64 r5.1.N)])], 3⟩ ?_ ?_
  · refine step (v := .ptr 0 0 0) rfl ?_
    refine stepW (v := .d (.tup [eapi_Item r5.1, .bool r5.2.1])) (σ' := (upd (upd (upd (upd (stab [(0, .var [.loc 1 0 r4.2.ring.length, .d (.int .i64 r4.2.first), .d (.int .i64 r4.2.n_), .d (.int .i64 r4.2.lost)]), (1, .lst true (some 3) (List.map eapi_Item r4.2.ring))]) 1 none) 0 none) 1 (some (.lst true (some 3) (List.map eapi_Item r5.2.2.ring)))) 0 (some (.var [.loc 1 0 r5.2.2.ring.length, .d (.int .i64 r5.2.2.first), .d (.int .i64 r5.2.2.n_), .d (.int .i64 r5.2.2.lost)])))) (n' := 3) (SCall.lift [0, 1] (c_queue_Queue_Pop hr5) (show 2 ≤ 3 by decide) (by decide) (show ∀ i ∈ [0, 1], i < 2 by decide) (dom_c (show 0 < 3 by decide) (dom_c (show 1 < 3 by decide) dom_n)) (VNs.c (.ptr 0 _ _ (show 0 < 2 by decide)) VNs.nil0) (SN.c (show 0 < 2 by decide) rfl (.vars (VNs.c (.loc 1 _ _ (show 1 < 2 by decide)) (VNs.c (.d _) (VNs.c (.d _) (VNs.c (.d _) VNs.nil0))))) (SN.c (show 1 < 2 by decide) rfl (.lst _ _ _) SN.nil0))) (show 2 ≤ 3 by decide) ?_
    refine step (v := .d (.tup [eapi_Item r5.1, .bool r5.2.1])) rfl ?_
    refine step (v := .d (eapi_Item r5.1)) rfl ?_
    refine step (v := .d (.bool r5.2.1)) rfl ?_
    refine step (v := .ptr 3 0 0) (σ' := (upd (upd (upd (upd (upd (stab [(0, .var [.loc 1 0 r4.2.ring.length, .d (.int .i64 r4.2.first), .d (.int .i64 r4.2.n_), .d (.int .i64 r4.2.lost)]), (1, .lst true (some 3) (List.map eapi_Item r4.2.ring))]) 1 none) 0 none) 1 (some (.lst true (some 3) (List.map eapi_Item r5.2.2.ring)))) 0 (some (.var [.loc 1 0 r5.2.2.ring.length, .d (.int .i64 r5.2.2.first), .d (.int .i64 r5.2.2.n_), .d (.int .i64 r5.2.2.lost)]))) 3 (some (.var [.d (.int .u16 0), .d (.str (⟨#[]⟩ : ByteArray)), .d (.int .i64 0)])))) (n' := 4) rfl ?_
    refine step (v := V.undef) (σ' := (upd (upd (upd (upd (upd (upd (stab [(0, .var [.loc 1 0 r4.2.ring.length, .d (.int .i64 r4.2.first), .d (.int .i64 r4.2.n_), .d (.int .i64 r4.2.lost)]), (1, .lst true (some 3) (List.map eapi_Item r4.2.ring))]) 1 none) 0 none) 1 (some (.lst true (some 3) (List.map eapi_Item r5.2.2.ring)))) 0 (some (.var [.loc 1 0 r5.2.2.ring.length, .d (.int .i64 r5.2.2.first), .d (.int .i64 r5.2.2.n_), .d (.int .i64 r5.2.2.lost)]))) 3 (some (.var [.d (.int .u16 0), .d (.str (⟨#[]⟩ : ByteArray)), .d (.int .i64 0)]))) 3 (some (.var [.d (.int .u16 r5.1.Pt), .d (.str r5.1.Raw), .d (.int .i64 r5.1.N)])))) (n' := 4) rfl ?_
    refine step (v := .d (.bool r5.2.1)) rfl ?_
    exact RunOps.nil' (Norm.mk [0, 1, 3] (by decide) (by decide) (by decide) ⟨.ptr 0 _ _ (show 0 < 3 by decide), .d _, .d _, .d _, .ptr 2 _ _ (show 2 < 3 by decide), .d _, trivial⟩ ⟨⟨show 0 < 3 by decide, _, rfl, .vars ⟨.loc 1 _ _ (show 1 < 3 by decide), .d _, .d _, .d _, trivial⟩⟩, ⟨show 1 < 3 by decide, _, rfl, .lst _ _ _⟩, ⟨show 2 < 3 by decide, _, rfl, .vars ⟨.d _, .d _, .d _, trivial⟩⟩, trivial⟩)
  obtain ⟨y14, hv, h⟩ := bindE h
  refine NWp.opsJ ⟨tab [(0, .d (.bool y14))], stab [], 0⟩ ?_ ?_
  · refine step (v := .d (.int .i64 r2.1)) rfl ?_
    refine step (v := .d (.bool (r2.1 == 0))) rfl ?_
    refine step (v := .d (.bool (r2.1 == 0))) rfl ?_
    by_cases hg6 : (r2.1 == 0) = true
    · replace hv := iteT hg6 hv
      refine stepG (c := (r2.1 == 0)) rfl hg6 ?_
      refine step (v := .d (.int .i64 r3.1)) rfl ?_
      refine stepG (c := (r2.1 == 0)) rfl hg6 ?_
      refine step (v := .d (.bool (r3.1 == 0))) rfl ?_
      refine step (v := .d (.bool (r3.1 == 0))) (st_pickT (b := (r2.1 == 0)) rfl hg6 rfl) ?_
      refine step (v := .d (.bool (r3.1 == 0))) rfl ?_
      by_cases hg7 : (r3.1 == 0) = true
      · replace hv := iteT hg7 hv
        refine stepG (c := (r3.1 == 0)) rfl hg7 ?_
        refine step (v := .d (.int .i64 r4.1)) rfl ?_
        refine stepG (c := (r3.1 == 0)) rfl hg7 ?_
        refine step (v := .d (.bool (r4.1 == 32))) rfl ?_
        refine step (v := .d (.bool (r4.1 == 32))) (st_pickT (b := (r3.1 == 0)) rfl hg7 rfl) ?_
        refine step (v := .d (.bool (r4.1 == 32))) rfl ?_
        by_cases hg8 : (r4.1 == 32) = true
        · replace hv := iteT hg8 hv
          refine stepG (c := (r4.1 == 32)) rfl hg8 ?_
          refine step (v := .d (.bool r5.2.1)) rfl ?_
          refine step (v := .d (.bool r5.2.1)) (st_pickT (b := (r4.1 == 32)) rfl hg8 rfl) ?_
          refine step (v := .d (.bool r5.2.1)) rfl ?_
          by_cases hg9 : r5.2.1 = true
          · replace hv := iteT hg9 hv
            refine stepG (c := r5.2.1) rfl hg9 ?_
            refine step (v := .ptr 2 0 2) rfl ?_
            refine stepG (c := r5.2.1) rfl hg9 ?_
            refine step (v := .d (.int .i64 r5.1.N)) rfl ?_
            refine stepG (c := r5.2.1) rfl hg9 ?_
            refine step (v := .d (.bool (r5.1.N == 1))) rfl ?_
            refine step (v := .d (.bool (r5.1.N == 1))) (st_pickT (b := r5.2.1) rfl hg9 rfl) ?_
            refine step (v := .d (.bool (r5.1.N == 1))) rfl ?_
            by_cases hg10 : (r5.1.N == 1) = true
            · replace hv := iteT hg10 hv
              obtain ⟨r11, hr11, hv⟩ := bindE hv
              refine stepG (c := (r5.1.N == 1)) rfl hg10 ?_
              refine step (v := .ptr 0 0 0) rfl ?_
              refine stepG (c := (r5.1.N == 1)) rfl hg10 ?_
              refine stepW (v := .d (.int .i64 r11)) (σ' := _) (n' := _) (PCall.borrow (c_queue_Queue_Len hr11) rfl (ViewsB.c (viewB_var rfl (ViewsB.c (viewB_all (xs := r5.2.2.ring) (e := eapi_Item) rfl rfl) (ViewsB.c (.d _) (ViewsB.c (.d _) (ViewsB.c (.d _) ViewsB.nil0))))) ViewsB.nil0)) (Nat.le_refl _) ?_
              refine stepG (c := (r5.1.N == 1)) rfl hg10 ?_
              refine step (v := .d (.bool (r11 == 1))) rfl ?_
              refine step (v := .d (.bool (r11 == 1))) (st_pickT (b := (r5.1.N == 1)) rfl hg10 rfl) ?_
              refine step (v := .d (.bool (r11 == 1))) rfl ?_
              by_cases hg12 : (r11 == 1) = true
              · replace hv := iteT hg12 hv
                obtain ⟨r13, hr13, hv⟩ := bindE hv
                refine stepG (c := (r11 == 1)) rfl hg12 ?_
                refine step (v := .ptr 0 0 0) rfl ?_
                refine stepG (c := (r11 == 1)) rfl hg12 ?_
                refine stepW (v := .d (.int .i64 r13)) (σ' := _) (n' := _) (PCall.borrow (c_queue_Queue_Lost hr13) rfl (ViewsB.c (viewB_var rfl (ViewsB.c (viewB_all (xs := r5.2.2.ring) (e := eapi_Item) rfl rfl) (ViewsB.c (.d _) (ViewsB.c (.d _) (ViewsB.c (.d _) ViewsB.nil0))))) ViewsB.nil0)) (Nat.le_refl _) ?_
                refine stepG (c := (r11 == 1)) rfl hg12 ?_
                refine step (v := .d (.bool (r13 == 1))) rfl ?_
                refine step (v := .d (.bool (r13 == 1))) (st_pickT (b := (r11 == 1)) rfl hg12 rfl) ?_
                refine step (v := .d (.bool (r13 == 1))) rfl ?_
                have hh := Option.some.inj hv
                subst hh
                exact RunOps.nil' (Norm.mk [] (by decide) (by decide) (by decide) ⟨.d _, trivial⟩ trivial)
              · replace hv := iteF hg12 hv
                refine stepX (c := (r11 == 1)) rfl hg12 ?_
                refine stepX (c := (r11 == 1)) rfl hg12 ?_
                refine stepX (c := (r11 == 1)) rfl hg12 ?_
                refine step (v := .d (.bool false)) (st_pickF (b := (r11 == 1)) rfl hg12 rfl) ?_
                refine step (v := .d (.bool false)) rfl ?_
                have hh := Option.some.inj hv
                subst hh
                exact RunOps.nil' (Norm.mk [] (by decide) (by decide) (by decide) ⟨.d _, trivial⟩ trivial)
            · replace hv := iteF hg10 hv
              refine stepX (c := (r5.1.N == 1)) rfl hg10 ?_
              refine stepX (c := (r5.1.N == 1)) rfl hg10 ?_
              refine stepX (c := (r5.1.N == 1)) rfl hg10 ?_
              refine step (v := .d (.bool false)) (st_pickF (b := (r5.1.N == 1)) rfl hg10 rfl) ?_
              refine step (v := .d (.bool false)) rfl ?_
              refine stepX (c := false) rfl (by decide) ?_
              refine stepX (c := false) rfl (by decide) ?_
              refine stepX (c := false) rfl (by decide) ?_
              refine step (v := .d (.bool false)) (st_pickF (b := false) rfl (by decide) rfl) ?_
              refine step (v := .d (.bool false)) rfl ?_
              have hh := Option.some.inj hv
              subst hh
              exact RunOps.nil' (Norm.mk [] (by decide) (by decide) (by decide) ⟨.d _, trivial⟩ trivial)
          · replace hv := iteF hg9 hv
            refine stepX (c := r5.2.1) rfl hg9 ?_
            refine stepX (c := r5.2.1) rfl hg9 ?_
            refine stepX (c := r5.2.1) rfl hg9 ?_
            refine step (v := .d (.bool false)) (st_pickF (b := r5.2.1) rfl hg9 rfl) ?_
            refine step (v := .d (.bool false)) rfl ?_
            refine stepX (c := false) rfl (by decide) ?_
            refine stepX (c := false) rfl (by decide) ?_
            refine stepX (c := false) rfl (by decide) ?_
            refine step (v := .d (.bool false)) (st_pickF (b := false) rfl (by decide) rfl) ?_
            refine step (v := .d (.bool false)) rfl ?_
            refine stepX (c := false) rfl (by decide) ?_
            refine stepX (c := false) rfl (by decide) ?_
            refine stepX (c := false) rfl (by decide) ?_
            refine step (v := .d (.bool false)) (st_pickF (b := false) rfl (by decide) rfl) ?_
            refine step (v := .d (.bool false)) rfl ?_
            have hh := Option.some.inj hv
            subst hh
            exact RunOps.nil' (Norm.mk [] (by decide) (by decide) (by decide) ⟨.d _, trivial⟩ trivial)
        · replace hv := iteF hg8 hv
          refine stepX (c := (r4.1 == 32)) rfl hg8 ?_
          refine step (v := .d (.bool false)) (st_pickF (b := (r4.1 == 32)) rfl hg8 rfl) ?_
          refine step (v := .d (.bool false)) rfl ?_
          refine stepX (c := false) rfl (by decide) ?_
          refine stepX (c := false) rfl (by decide) ?_
          refine stepX (c := false) rfl (by decide) ?_
          refine step (v := .d (.bool false)) (st_pickF (b := false) rfl (by decide) rfl) ?_
          refine step (v := .d (.bool false)) rfl ?_
          refine stepX (c := false) rfl (by decide) ?_
          refine stepX (c := false) rfl (by decide) ?_
          refine stepX (c := false) rfl (by decide) ?_
          refine step (v := .d (.bool false)) (st_pickF (b := false) rfl (by decide) rfl) ?_
          refine step (v := .d (.bool false)) rfl ?_
          refine stepX (c := false) rfl (by decide) ?_
          refine stepX (c := false) rfl (by decide) ?_
          refine stepX (c := false) rfl (by decide) ?_
          refine step (v := .d (.bool false)) (st_pickF (b := false) rfl (by decide) rfl) ?_
          refine step (v := .d (.bool false)) rfl ?_
          have hh := Option.some.inj hv
          subst hh
          exact RunOps.nil' (Norm.mk [] (by decide) (by decide) (by decide) ⟨.d _, trivial⟩ trivial)
      · replace hv := iteF hg7 hv
        refine stepX (c := (r3.1 == 0)) rfl hg7 ?_
        refine stepX (c := (r3.1 == 0)) rfl hg7 ?_
        refine step (v := .d (.bool false)) (st_pickF (b := (r3.1 == 0)) rfl hg7 rfl) ?_
        refine step (v := .d (.bool false)) rfl ?_
        refine stepX (c := false) rfl (by decide) ?_
        refine step (v := .d (.bool false)) (st_pickF (b := false) rfl (by decide) rfl) ?_
        refine step (v := .d (.bool false)) rfl ?_
        refine stepX (c := false) rfl (by decide) ?_
        refine stepX (c := false) rfl (by decide) ?_
        refine stepX (c := false) rfl (by decide) ?_
        refine step (v := .d (.bool false)) (st_pickF (b := false) rfl (by decide) rfl) ?_
        refine step (v := .d (.bool false)) rfl ?_
        refine stepX (c := false) rfl (by decide) ?_
        refine stepX (c := false) rfl (by decide) ?_
        refine stepX (c := false) rfl (by decide) ?_
        refine step (v := .d (.bool false)) (st_pickF (b := false) rfl (by decide) rfl) ?_
        refine step (v := .d (.bool false)) rfl ?_
        refine stepX (c := false) rfl (by decide) ?_
        refine stepX (c := false) rfl (by decide) ?_
        refine stepX (c := false) rfl (by decide) ?_
        refine step (v := .d (.bool false)) (st_pickF (b := false) rfl (by decide) rfl) ?_
        refine step (v := .d (.bool false)) rfl ?_
        have hh := Option.some.inj hv
        subst hh
        exact RunOps.nil' (Norm.mk [] (by decide) (by decide) (by decide) ⟨.d _, trivial⟩ trivial)
    · replace hv := iteF hg6 hv
      refine stepX (c := (r2.1 == 0)) rfl hg6 ?_
      refine stepX (c := (r2.1 == 0)) rfl hg6 ?_
      refine step (v := .d (.bool false)) (st_pickF (b := (r2.1 == 0)) rfl hg6 rfl) ?_
      refine step (v := .d (.bool false)) rfl ?_
      refine stepX (c := false) rfl (by decide) ?_
      refine stepX (c := false) rfl (by decide) ?_
      refine step (v := .d (.bool false)) (st_pickF (b := false) rfl (by decide) rfl) ?_
      refine step (v := .d (.bool false)) rfl ?_
      refine stepX (c := false) rfl (by decide) ?_
      refine step (v := .d (.bool false)) (st_pickF (b := false) rfl (by decide) rfl) ?_
      refine step (v := .d (.bool false)) rfl ?_
      refine stepX (c := false) rfl (by decide) ?_
      refine stepX (c := false) rfl (by decide) ?_
      refine stepX (c := false) rfl (by decide) ?_
      refine step (v := .d (.bool false)) (st_pickF (b := false) rfl (by decide) rfl) ?_
      refine step (v := .d (.bool false)) rfl ?_
      refine stepX (c := false) rfl (by decide) ?_
      refine stepX (c := false) rfl (by decide) ?_
      refine stepX (c := false) rfl (by decide) ?_
      refine step (v := .d (.bool false)) (st_pickF (b := false) rfl (by decide) rfl) ?_
      refine step (v := .d (.bool false)) rfl ?_
      refine stepX (c := false) rfl (by decide) ?_
      refine stepX (c := false) rfl (by decide) ?_
      refine stepX (c := false) rfl (by decide) ?_
      refine step (v := .d (.bool false)) (st_pickF (b := false) rfl (by decide) rfl) ?_
      refine step (v := .d (.bool false)) rfl ?_
      have hh := Option.some.inj hv
      subst hh
      exact RunOps.nil' (Norm.mk [] (by decide) (by decide) (by decide) ⟨.d _, trivial⟩ trivial)
  have hh := Option.some.inj h
  subst hh
  refine NWp.ret ?_
  show FQ _ _ _ _
  exact FQ.mk1 (.inr rfl) (res_t (v := .d (.bool y14)) rfl rfl) (RV.d trivial)

theorem c_ref16_New {a0 : Int} {r : ref16_Queue} (h : ref16_New a0 = some r) : PCall Try.prog 13 [.int .i64 a0] (eref16_Queue r) := by
  refine PCall.introN ok13 (show 1 ≤ 7 by decide) ?_
  refine NWp.norm (s0 := ⟨tab [(0, .d (.int .i64 a0))], stab [], 0⟩) (Norm.mk [] (by decide) (by decide) (by decide) ⟨.d _, trivial⟩ trivial) ?_
  refine NWp.opsJ ⟨tab [(0, .d (.int .i64 a0)), (2, .ptr 0 0 0)], stab [(0, .var [.d (.int .i64 0), .d (eL (some 3) eapi_Item []), .d (.int .i64 0)])], 1⟩ ?_ ?_
  · refine step (v := .ptr 0 0 0) (σ' := (upd (stab []) 0 (some (.var [.d (.int .i64 0), .d (eL (some 3) eapi_Item []), .d (.int .i64 0)])))) (n' := 1) rfl ?_
    exact RunOps.nil' (Norm.mk [0] (by decide) (by decide) (by decide) ⟨.d _, .ptr 0 _ _ (show 0 < 1 by decide), trivial⟩ ⟨⟨show 0 < 1 by decide, _, rfl, .vars ⟨.d _, .d _, .d _, trivial⟩⟩, trivial⟩)
  refine NWp.opsJ ⟨tab [(2, .ptr 0 0 0)], stab [(0, .var [.d (.int .i64 (imin (imax a0 0) 64)), .d (eL (some 3) eapi_Item []), .d (.int .i64 0)])], 1⟩ ?_ ?_
  · refine step (v := .d (.int .i64 a0)) rfl ?_
    refine step (v := .d (.int .i64 (imax a0 0))) rfl ?_
    refine step (v := .d (.int .i64 (imin (imax a0 0) 64))) rfl ?_
    refine step (v := .d (eref16_Queue (ref16_Queue.mk (imin (imax a0 0) 64) [] 0))) (st_build (ds := [.int .i64 (imin (imax a0 0) 64), eL (some 3) eapi_Item [], .int .i64 0]) rfl) ?_
    refine step (v := V.undef) (σ' := (upd (stab [(0, .var [.d (.int .i64 0), .d (eL (some 3) eapi_Item []), .d (.int .i64 0)])]) 0 (some (.var [.d (.int .i64 (imin (imax a0 0) 64)), .d (eL (some 3) eapi_Item []), .d (.int .i64 0)])))) (n' := 1) rfl ?_
    exact RunOps.nil' (Norm.mk [0] (by decide) (by decide) (by decide) ⟨.ptr 0 _ _ (show 0 < 1 by decide), trivial⟩ ⟨⟨show 0 < 1 by decide, _, rfl, .vars ⟨.d _, .d _, .d _, trivial⟩⟩, trivial⟩)
  have hh := Option.some.inj h
  subst hh
  refine NWp.ret ?_
  show FQ _ _ _ _
  exact FQ.mk1 (.inr rfl) (res_cell (ds := [.int .i64 (imin (imax a0 0) 64), eL (some 3) eapi_Item [], .int .i64 0]) rfl rfl (show 3 ≤ 3 by decide) rfl rfl) (RV.d trivial)

theorem c_ref16_Queue_Push {a0 : ref16_Queue} {a1 : api_Item} {r : (ref16_Queue × Int)} (h : ref16_Queue_Push a0 a1 = some r) : PCall Try.prog 14 [eref16_Queue a0, eapi_Item a1] (.tup [eref16_Queue r.1, .int .i64 r.2]) := by
  refine PCall.introN ok14 (show 2 ≤ 26 by decide) ?_
  refine NWp.norm (s0 := ⟨tab [(0, .d (eref16_Queue a0)), (1, .d (eapi_Item a1))], stab [], 0⟩) (Norm.mk [] (by decide) (by decide) (by decide) ⟨.d _, .d _, trivial⟩ trivial) ?_
  refine NWp.opsJ ⟨tab [(2, .ptr 0 0 0), (3, .d (.cptr (some 3) (eapi_Item a1) 0)), (4, .ptr 1 0 0)], stab [(0, .var [.d (.int .i64 a0.Places), .d (eL (some 3) eapi_Item a0.L), .d (.int .i64 a0.Lost)]), (1, .var [.d (.int .i64 0), .d (eL (some 3) eapi_Item []), .d (.int .i64 0)])], 2⟩ ?_ ?_
  · refine step (v := .ptr 0 0 0) (σ' := (upd (stab []) 0 (some (.var [.d (.int .i64 a0.Places), .d (eL (some 3) eapi_Item a0.L), .d (.int .i64 a0.Lost)])))) (n' := 1) rfl ?_
    refine step (v := .d (.cptr (some 3) (eapi_Item a1) 0)) rfl ?_
    refine step (v := .ptr 1 0 0) (σ' := (upd (upd (stab []) 0 (some (.var [.d (.int .i64 a0.Places), .d (eL (some 3) eapi_Item a0.L), .d (.int .i64 a0.Lost)]))) 1 (some (.var [.d (.int .i64 0), .d (eL (some 3) eapi_Item []), .d (.int .i64 0)])))) (n' := 2) rfl ?_
    refine step (v := .d (.int .i64 0)) rfl ?_
    exact RunOps.nil' (Norm.mk [0, 1] (by decide) (by decide) (by decide) ⟨.ptr 0 _ _ (show 0 < 2 by decide), .d _, .ptr 1 _ _ (show 1 < 2 by decide), trivial⟩ ⟨⟨show 0 < 2 by decide, _, rfl, .vars ⟨.d _, .d _, .d _, trivial⟩⟩, ⟨show 1 < 2 by decide, _, rfl, .vars ⟨.d _, .d _, .d _, trivial⟩⟩, trivial⟩)
  refine NWp.seq ?_
  refine NWp.opsJ ⟨tab [(2, .ptr 0 0 0), (3, .d (.cptr (some 3) (eapi_Item a1) 0)), (4, .ptr 1 0 0), (11, .d (.bool (decide ((a0.L.length : Int) ≥ a0.Places))))], stab [(0, .var [.d (.int .i64 a0.Places), .d (eL (some 3) eapi_Item a0.L), .d (.int .i64 a0.Lost)]), (1, .var [.d (.int .i64 0), .d (eL (some 3) eapi_Item []), .d (.int .i64 0)])], 2⟩ ?_ ?_
  · refine step (v := .ptr 0 0 1) rfl ?_
    refine step (v := .d (eL (some 3) eapi_Item a0.L)) rfl ?_
    refine step (v := .d (.int .i64 (a0.L.length : Int))) (st_len (xs := a0.L) (e := eapi_Item) rfl) ?_
    refine step (v := .ptr 0 0 0) rfl ?_
    refine step (v := .d (.int .i64 a0.Places)) rfl ?_
    refine step (v := .d (.bool (decide ((a0.L.length : Int) ≥ a0.Places)))) rfl ?_
    exact RunOps.nil' (Norm.mk [0, 1] (by decide) (by decide) (by decide) ⟨.ptr 0 _ _ (show 0 < 2 by decide), .d _, .ptr 1 _ _ (show 1 < 2 by decide), .d _, trivial⟩ ⟨⟨show 0 < 2 by decide, _, rfl, .vars ⟨.d _, .d _, .d _, trivial⟩⟩, ⟨show 1 < 2 by decide, _, rfl, .vars ⟨.d _, .d _, .d _, trivial⟩⟩, trivial⟩)
  by_cases hc1 : decide ((a0.L.length : Int) ≥ a0.Places) = true
  · replace h := iteT hc1 h
    refine NWp.condT (t := decide ((a0.L.length : Int) ≥ a0.Places)) rfl hc1 ?_
    refine NWp.opsJ ⟨tab [(2, .ptr 0 0 0), (4, .ptr 1 0 0)], stab [(0, .var [.d (.int .i64 a0.Places), .d (eL (some 3) eapi_Item a0.L), .d (.int .i64 (IntKind.i64.wrap (a0.Lost + 1)))]), (1, .var [.d (.int .i64 0), .d (eL (some 3) eapi_Item []), .d (.int .i64 0)])], 2⟩ ?_ ?_
    · refine step (v := .ptr 0 0 2) rfl ?_
      refine step (v := .d (.int .i64 a0.Lost)) rfl ?_
      refine step (v := .d (.int .i64 (IntKind.i64.wrap (a0.Lost + 1)))) rfl ?_
      refine step (v := .ptr 0 0 2) rfl ?_
      refine step (v := V.undef) (σ' := (upd (stab [(0, .var [.d (.int .i64 a0.Places), .d (eL (some 3) eapi_Item a0.L), .d (.int .i64 a0.Lost)]), (1, .var [.d (.int .i64 0), .d (eL (some 3) eapi_Item []), .d (.int .i64 0)])]) 0 (some (.var [.d (.int .i64 a0.Places), .d (eL (some 3) eapi_Item a0.L), .d (.int .i64 (IntKind.i64.wrap (a0.Lost + 1)))])))) (n' := 2) rfl ?_
      exact RunOps.nil' (Norm.mk [0, 1] (by decide) (by decide) (by decide) ⟨.ptr 0 _ _ (show 0 < 2 by decide), .ptr 1 _ _ (show 1 < 2 by decide), trivial⟩ ⟨⟨show 0 < 2 by decide, _, rfl, .vars ⟨.d _, .d _, .d _, trivial⟩⟩, ⟨show 1 < 2 by decide, _, rfl, .vars ⟨.d _, .d _, .d _, trivial⟩⟩, trivial⟩)
    refine NWp.opsJ ⟨tab [(4, .ptr 0 0 0), (5, .d (.int .i64 32))], stab [(0, .var [.d (.int .i64 a0.Places), .d (eL (some 3) eapi_Item a0.L), .d (.int .i64 (IntKind.i64.wrap (a0.Lost + 1)))])], 1⟩ ?_ ?_
    · refine step (v := .d (eref16_Queue (ref16_Queue.mk a0.Places a0.L (IntKind.i64.wrap (a0.Lost + 1))))) (st_ldV (ds := [.int .i64 a0.Places, eL (some 3) eapi_Item a0.L, .int .i64 (IntKind.i64.wrap (a0.Lost + 1))]) rfl rfl (show 3 ≤ 3 by decide) rfl) ?_
      refine step (v := V.undef) (σ' := (upd (stab [(0, .var [.d (.int .i64 a0.Places), .d (eL (some 3) eapi_Item a0.L), .d (.int .i64 (IntKind.i64.wrap (a0.Lost + 1)))]), (1, .var [.d (.int .i64 0), .d (eL (some 3) eapi_Item []), .d (.int .i64 0)])]) 1 (some (.var [.d (.int .i64 a0.Places), .d (eL (some 3) eapi_Item a0.L), .d (.int .i64 (IntKind.i64.wrap (a0.Lost + 1)))])))) (n' := 2) rfl ?_
      refine step (v := .d (.int .i64 32)) rfl ?_
      exact RunOps.nil' (Norm.mk [1] (by decide) (by decide) (by decide) ⟨.ptr 0 _ _ (show 0 < 1 by decide), .d _, trivial⟩ ⟨⟨show 0 < 1 by decide, _, rfl, .vars ⟨.d _, .d _, .d _, trivial⟩⟩, trivial⟩)
    have hh := Option.some.inj h
    subst hh
    refine NWp.ret ?_
    show FQ _ _ _ _
    exact FQ.mkT (.inr rfl) (res_cell (ds := [.int .i64 a0.Places, eL (some 3) eapi_Item a0.L, .int .i64 (IntKind.i64.wrap (a0.Lost + 1))]) rfl rfl (show 3 ≤ 3 by decide) rfl (res_t (v := .d (.int .i64 32)) rfl rfl)) (RV.d (RV.d trivial))
  · replace h := iteF hc1 h
    refine NWp.condF (t := decide ((a0.L.length : Int) ≥ a0.Places)) rfl hc1 ?_
    refine NWp.skip ?_
    obtain ⟨l2, hl2, h⟩ := bindE h
    obtain ⟨l3, hl3, h⟩ := bindE h
    refine NWp.opsSJ ⟨tab [(2, .ptr 0 0 0), (4, .ptr 2 0 0)], stab [(0, .var [.d (.int .i64 a0.Places), .loc 1 0 l3.length, .d (.int .i64 a0.Lost)]), (1, .lst false (some 3) (List.map eapi_Item l3)), (2, .var [.d (.int .i64 0), .d (eL (some 3) eapi_Item []), .d (.int .i64 0)])], 3⟩ ?_ ?_
    · refine stepL [] [] (v := .loc 2 0 (([] : List api_Item).length)) (σ' := (upd (stab [(0, .var [.d (.int .i64 a0.Places), .d (eL (some 3) eapi_Item a0.L), .d (.int .i64 a0.Lost)]), (1, .var [.d (.int .i64 0), .d (eL (some 3) eapi_Item []), .d (.int .i64 0)])]) 2 (some (.lst false (some 3) (List.map eapi_Item ([] : List api_Item)))))) (n' := 3) rfl rfl rfl ?_
      refine stepL [] [] (v := .ptr 0 0 1) rfl rfl rfl ?_
      refine stepL [0] [] (v := .d (eL (some 3) eapi_Item a0.L)) rfl rfl rfl ?_
      refine stepL [2] [2] (v := .loc 3 0 l2.length) (σ' := (upd (upd (upd (stab [(0, .var [.d (.int .i64 a0.Places), .d (eL (some 3) eapi_Item a0.L), .d (.int .i64 a0.Lost)]), (1, .var [.d (.int .i64 0), .d (eL (some 3) eapi_Item []), .d (.int .i64 0)])]) 2 (some (.lst false (some 3) (List.map eapi_Item ([] : List api_Item))))) 2 none) 3 (some (.lst false (some 3) (List.map eapi_Item l2))))) (n' := 4) (st_app (xs := ([] : List api_Item)) (ys := a0.L) (e := eapi_Item) hl2 rfl rfl rfl (src_v (xs := a0.L) (e := eapi_Item) rfl)) rfl rfl ?_
      refine stepL [] [] (v := .d (eapi_Item a1)) rfl rfl rfl ?_
      refine stepL [] [] (v := .d (eL (some 3) eapi_Item ([a1] : List api_Item))) rfl rfl rfl ?_
      refine stepL [3] [3] (v := .loc 4 0 l3.length) (σ' := (upd (upd (upd (upd (upd (stab [(0, .var [.d (.int .i64 a0.Places), .d (eL (some 3) eapi_Item a0.L), .d (.int .i64 a0.Lost)]), (1, .var [.d (.int .i64 0), .d (eL (some 3) eapi_Item []), .d (.int .i64 0)])]) 2 (some (.lst false (some 3) (List.map eapi_Item ([] : List api_Item))))) 2 none) 3 (some (.lst false (some 3) (List.map eapi_Item l2)))) 3 none) 4 (some (.lst false (some 3) (List.map eapi_Item l3))))) (n' := 5) (st_app (xs := l2) (ys := ([a1] : List api_Item)) (e := eapi_Item) hl3 rfl rfl rfl (src_v (xs := ([a1] : List api_Item)) (e := eapi_Item) rfl)) rfl rfl ?_
      refine stepL [] [] (v := .ptr 0 0 1) rfl rfl rfl ?_
      refine stepL [0] [0] (v := V.undef) (σ' := (upd (upd (upd (upd (upd (upd (stab [(0, .var [.d (.int .i64 a0.Places), .d (eL (some 3) eapi_Item a0.L), .d (.int .i64 a0.Lost)]), (1, .var [.d (.int .i64 0), .d (eL (some 3) eapi_Item []), .d (.int .i64 0)])]) 2 (some (.lst false (some 3) (List.map eapi_Item ([] : List api_Item))))) 2 none) 3 (some (.lst false (some 3) (List.map eapi_Item l2)))) 3 none) 4 (some (.lst false (some 3) (List.map eapi_Item l3)))) 0 (some (.var [.d (.int .i64 a0.Places), .loc 4 0 l3.length, .d (.int .i64 a0.Lost)])))) (n' := 5) rfl rfl rfl ?_
      exact RunOpsL.nil' ⟨by decide, Norm.mk [0, 4, 1] (by decide) (by decide) (by decide) ⟨.ptr 0 _ _ (show 0 < 3 by decide), .ptr 2 _ _ (show 2 < 3 by decide), trivial⟩ ⟨⟨show 0 < 3 by decide, _, rfl, .vars ⟨.d _, .loc 1 _ _ (show 1 < 3 by decide), .d _, trivial⟩⟩, ⟨show 1 < 3 by decide, _, rfl, .lst _ _ _⟩, ⟨show 2 < 3 by decide, _, rfl, .vars ⟨.d _, .d _, .d _, trivial⟩⟩, trivial⟩⟩
    refine NWp.opsJ ⟨tab [(4, .ptr 0 0 0), (5, .d (.int .i64 0))], stab [(0, .var [.d (.int .i64 a0.Places), .loc 1 0 l3.length, .d (.int .i64 a0.Lost)]), (1, .lst false (some 3) (List.map eapi_Item l3))], 2⟩ ?_ ?_
    · refine step (v := .agg [.d (.int .i64 a0.Places), .loc 1 0 l3.length, .d (.int .i64 a0.Lost)]) rfl ?_
      refine step (v := V.undef) (σ' := (upd (stab [(0, .var [.d (.int .i64 a0.Places), .loc 1 0 l3.length, .d (.int .i64 a0.Lost)]), (1, .lst false (some 3) (List.map eapi_Item l3)), (2, .var [.d (.int .i64 0), .d (eL (some 3) eapi_Item []), .d (.int .i64 0)])]) 2 (some (.var [.d (.int .i64 a0.Places), .loc 1 0 l3.length, .d (.int .i64 a0.Lost)])))) (n' := 3) rfl ?_
      refine step (v := .d (.int .i64 0)) rfl ?_
      exact RunOps.nil' (Norm.mk [2, 1] (by decide) (by decide) (by decide) ⟨.ptr 0 _ _ (show 0 < 2 by decide), .d _, trivial⟩ ⟨⟨show 0 < 2 by decide, _, rfl, .vars ⟨.d _, .loc 1 _ _ (show 1 < 2 by decide), .d _, trivial⟩⟩, ⟨show 1 < 2 by decide, _, rfl, .lst _ _ _⟩, trivial⟩)
    have hh := Option.some.inj h
    subst hh
    refine NWp.ret ?_
    show FQ _ _ _ _
    exact FQ.mkT (.inr rfl) rfl (RV.agg (RV0.d (RV0.loc (xs := l3) (e := eapi_Item) rfl rfl (RV0.d trivial))) (RV.d trivial))

theorem c_ref16_Queue_Pop {a0 : ref16_Queue} {r : (ref16_Queue × api_Item × Bool)} (h : ref16_Queue_Pop a0 = some r) : PCall Try.prog 16 [eref16_Queue a0] (.tup [eref16_Queue r.1, eapi_Item r.2.1, .bool r.2.2]) := by
  refine PCall.introN ok16 (show 1 ≤ 22 by decide) ?_
  refine NWp.norm (s0 := ⟨tab [(0, .d (eref16_Queue a0))], stab [], 0⟩) (Norm.mk [] (by decide) (by decide) (by decide) ⟨.d _, trivial⟩ trivial) ?_
  refine NWp.opsJ ⟨tab [(1, .ptr 0 0 0), (2, .ptr 1 0 0), (3, .ptr 2 0 0)], stab [(0, .var [.d (.int .i64 a0.Places), .d (eL (some 3) eapi_Item a0.L), .d (.int .i64 a0.Lost)]), (1, .var [.d (.int .i64 0), .d (eL (some 3) eapi_Item []), .d (.int .i64 0)]), (2, .var [.d (.int .u16 0), .d (.str (⟨#[]⟩ : ByteArray)), .d (.int .i64 0)])], 3⟩ ?_ ?_
  · refine step (v := .ptr 0 0 0) (σ' := (upd (stab []) 0 (some (.var [.d (.int .i64 a0.Places), .d (eL (some 3) eapi_Item a0.L), .d (.int .i64 a0.Lost)])))) (n' := 1) rfl ?_
    refine step (v := .ptr 1 0 0) (σ' := (upd (upd (stab []) 0 (some (.var [.d (.int .i64 a0.Places), .d (eL (some 3) eapi_Item a0.L), .d (.int .i64 a0.Lost)]))) 1 (some (.var [.d (.int .i64 0), .d (eL (some 3) eapi_Item []), .d (.int .i64 0)])))) (n' := 2) rfl ?_
    refine step (v := .ptr 2 0 0) (σ' := (upd (upd (upd (stab []) 0 (some (.var [.d (.int .i64 a0.Places), .d (eL (some 3) eapi_Item a0.L), .d (.int .i64 a0.Lost)]))) 1 (some (.var [.d (.int .i64 0), .d (eL (some 3) eapi_Item []), .d (.int .i64 0)]))) 2 (some (.var [.d (.int .u16 0), .d (.str (⟨#[]⟩ : ByteArray)), .d (.int .i64 0)])))) (n' := 3) rfl ?_
    refine step (v := .d (.bool false)) rfl ?_
    exact RunOps.nil' (Norm.mk [0, 1, 2] (by decide) (by decide) (by decide) ⟨.ptr 0 _ _ (show 0 < 3 by decide), .ptr 1 _ _ (show 1 < 3 by decide), .ptr 2 _ _ (show 2 < 3 by decide), trivial⟩ ⟨⟨show 0 < 3 by decide, _, rfl, .vars ⟨.d _, .d _, .d _, trivial⟩⟩, ⟨show 1 < 3 by decide, _, rfl, .vars ⟨.d _, .d _, .d _, trivial⟩⟩, ⟨show 2 < 3 by decide, _, rfl, .vars ⟨.d _, .d _, .d _, trivial⟩⟩, trivial⟩)
  refine NWp.seq ?_
  refine NWp.opsJ ⟨tab [(1, .ptr 0 0 0), (2, .ptr 1 0 0), (3, .ptr 2 0 0), (9, .d (.bool ((a0.L.length : Int) == 0)))], stab [(0, .var [.d (.int .i64 a0.Places), .d (eL (some 3) eapi_Item a0.L), .d (.int .i64 a0.Lost)]), (1, .var [.d (.int .i64 0), .d (eL (some 3) eapi_Item []), .d (.int .i64 0)]), (2, .var [.d (.int .u16 0), .d (.str (⟨#[]⟩ : ByteArray)), .d (.int .i64 0)])], 3⟩ ?_ ?_
  · refine step (v := .ptr 0 0 1) rfl ?_
    refine step (v := .d (eL (some 3) eapi_Item a0.L)) rfl ?_
    refine step (v := .d (.int .i64 (a0.L.length : Int))) (st_len (xs := a0.L) (e := eapi_Item) rfl) ?_
    refine step (v := .d (.bool ((a0.L.length : Int) == 0))) rfl ?_
    exact RunOps.nil' (Norm.mk [0, 1, 2] (by decide) (by decide) (by decide) ⟨.ptr 0 _ _ (show 0 < 3 by decide), .ptr 1 _ _ (show 1 < 3 by decide), .ptr 2 _ _ (show 2 < 3 by decide), .d _, trivial⟩ ⟨⟨show 0 < 3 by decide, _, rfl, .vars ⟨.d _, .d _, .d _, trivial⟩⟩, ⟨show 1 < 3 by decide, _, rfl, .vars ⟨.d _, .d _, .d _, trivial⟩⟩, ⟨show 2 < 3 by decide, _, rfl, .vars ⟨.d _, .d _, .d _, trivial⟩⟩, trivial⟩)
  by_cases hc1 : ((a0.L.length : Int) == 0) = true
  · replace h := iteT hc1 h
    refine NWp.condT (t := ((a0.L.length : Int) == 0)) rfl hc1 ?_
    refine NWp.opsJ ⟨tab [(2, .ptr 0 0 0), (3, .ptr 1 0 0), (4, .d (.bool false))], stab [(0, .var [.d (.int .i64 a0.Places), .d (eL (some 3) eapi_Item a0.L), .d (.int .i64 a0.Lost)]), (1, .var [.d (.int .u16 0), .d (.str (⟨#[]⟩ : ByteArray)), .d (.int .i64 0)])], 2⟩ ?_ ?_
    · refine step (v := .d (eref16_Queue a0)) (st_ldV (ds := [.int .i64 a0.Places, eL (some 3) eapi_Item a0.L, .int .i64 a0.Lost]) rfl rfl (show 3 ≤ 3 by decide) rfl) ?_
      refine step (v := .d (eapi_Item (api_Item.mk 0 (⟨#[]⟩ : ByteArray) 0))) (st_build (ds := [.int .u16 0, .str (⟨#[]⟩ : ByteArray), .int .i64 0]) rfl) ?_
      refine step (v := V.undef) (σ' := (upd (stab [(0, .var [.d (.int .i64 a0.Places), .d (eL (some 3) eapi_Item a0.L), .d (.int .i64 a0.Lost)]), (1, .var [.d (.int .i64 0), .d (eL (some 3) eapi_Item []), .d (.int .i64 0)]), (2, .var [.d (.int .u16 0), .d (.str (⟨#[]⟩ : ByteArray)), .d (.int .i64 0)])]) 1 (some (.var [.d (.int .i64 a0.Places), .d (eL (some 3) eapi_Item a0.L), .d (.int .i64 a0.Lost)])))) (n' := 3) rfl ?_
      refine step (v := V.undef) (σ' := (upd (upd (stab [(0, .var [.d (.int .i64 a0.Places), .d (eL (some 3) eapi_Item a0.L), .d (.int .i64 a0.Lost)]), (1, .var [.d (.int .i64 0), .d (eL (some 3) eapi_Item []), .d (.int .i64 0)]), (2, .var [.d (.int .u16 0), .d (.str (⟨#[]⟩ : ByteArray)), .d (.int .i64 0)])]) 1 (some (.var [.d (.int .i64 a0.Places), .d (eL (some 3) eapi_Item a0.L), .d (.int .i64 a0.Lost)]))) 2 (some (.var [.d (.int .u16 0), .d (.str (⟨#[]⟩ : ByteArray)), .d (.int .i64 0)])))) (n' := 3) rfl ?_
      refine step (v := .d (.bool false)) rfl ?_
      exact RunOps.nil' (Norm.mk [1, 2] (by decide) (by decide) (by decide) ⟨.ptr 0 _ _ (show 0 < 2 by decide), .ptr 1 _ _ (show 1 < 2 by decide), .d _, trivial⟩ ⟨⟨show 0 < 2 by decide, _, rfl, .vars ⟨.d _, .d _, .d _, trivial⟩⟩, ⟨show 1 < 2 by decide, _, rfl, .vars ⟨.d _, .d _, .d _, trivial⟩⟩, trivial⟩)
    have hh := Option.some.inj h
    subst hh
    refine NWp.ret ?_
    show FQ _ _ _ _
    exact FQ.mkT (.inr rfl) (res_cell (ds := [.int .i64 a0.Places, eL (some 3) eapi_Item a0.L, .int .i64 a0.Lost]) rfl rfl (show 3 ≤ 3 by decide) rfl (res_cell (ds := [.int .u16 0, .str (⟨#[]⟩ : ByteArray), .int .i64 0]) rfl rfl (show 3 ≤ 3 by decide) rfl (res_t (v := .d (.bool false)) rfl rfl))) (RV.d (RV.d (RV.d trivial)))
  · replace h := iteF hc1 h
    refine NWp.condF (t := ((a0.L.length : Int) == 0)) rfl hc1 ?_
    refine NWp.skip ?_
    obtain ⟨x2, hx2, h⟩ := bindE h
    refine NWp.opsJ ⟨tab [(1, .ptr 0 0 0), (2, .ptr 1 0 0), (3, .ptr 2 0 0), (5, .ptr 3 0 0)], stab [(0, .var [.d (.int .i64 a0.Places), .d (eL (some 3) eapi_Item a0.L), .d (.int .i64 a0.Lost)]), (1, .var [.d (.int .i64 0), .d (eL (some 3) eapi_Item []), .d (.int .i64 0)]), (2, .var [.d (.int .u16 0), .d (.str (⟨#[]⟩ : ByteArray)), .d (.int .i64 0)]), (3, .var [.d (.int .u16 x2.Pt), .d (.str x2.Raw), .d (.int .i64 x2.N)])], 4⟩ ?_ ?_
    · refine step (v := .ptr 0 0 1) rfl ?_
      refine step (v := .d (eL (some 3) eapi_Item a0.L)) rfl ?_
      refine step (v := .d (.cptr (some 3) (eapi_Item x2) 0)) (st_iaddr (xs := a0.L) (e := eapi_Item) hx2 rfl rfl) ?_
      refine step (v := .d (eapi_Item x2)) rfl ?_
      refine step (v := .ptr 3 0 0) (σ' := (upd (stab [(0, .var [.d (.int .i64 a0.Places), .d (eL (some 3) eapi_Item a0.L), .d (.int .i64 a0.Lost)]), (1, .var [.d (.int .i64 0), .d (eL (some 3) eapi_Item []), .d (.int .i64 0)]), (2, .var [.d (.int .u16 0), .d (.str (⟨#[]⟩ : ByteArray)), .d (.int .i64 0)])]) 3 (some (.var [.d (.int .u16 0), .d (.str (⟨#[]⟩ : ByteArray)), .d (.int .i64 0)])))) (n' := 4) rfl ?_
      refine step (v := V.undef) (σ' := (upd (upd (stab [(0, .var [.d (.int .i64 a0.Places), .d (eL (some 3) eapi_Item a0.L), .d (.int .i64 a0.Lost)]), (1, .var [.d (.int .i64 0), .d (eL (some 3) eapi_Item []), .d (.int .i64 0)]), (2, .var [.d (.int .u16 0), .d (.str (⟨#[]⟩ : ByteArray)), .d (.int .i64 0)])]) 3 (some (.var [.d (.int .u16 0), .d (.str (⟨#[]⟩ : ByteArray)), .d (.int .i64 0)]))) 3 (some (.var [.d (.int .u16 x2.Pt), .d (.str x2.Raw), .d (.int .i64 x2.N)])))) (n' := 4) rfl ?_
      exact RunOps.nil' (Norm.mk [0, 1, 2, 3] (by decide) (by decide) (by decide) ⟨.ptr 0 _ _ (show 0 < 4 by decide), .ptr 1 _ _ (show 1 < 4 by decide), .ptr 2 _ _ (show 2 < 4 by decide), .ptr 3 _ _ (show 3 < 4 by decide), trivial⟩ ⟨⟨show 0 < 4 by decide, _, rfl, .vars ⟨.d _, .d _, .d _, trivial⟩⟩, ⟨show 1 < 4 by decide, _, rfl, .vars ⟨.d _, .d _, .d _, trivial⟩⟩, ⟨show 2 < 4 by decide, _, rfl, .vars ⟨.d _, .d _, .d _, trivial⟩⟩, ⟨show 3 < 4 by decide, _, rfl, .vars ⟨.d _, .d _, .d _, trivial⟩⟩, trivial⟩)
    obtain ⟨l3, hl3, h⟩ := bindE h
    refine NWp.opsJ ⟨tab [(1, .ptr 0 0 0), (2, .ptr 1 0 0), (3, .ptr 2 0 0), (5, .ptr 3 0 0)], stab [(0, .var [.d (.int .i64 a0.Places), .d (eL (some 3) eapi_Item l3), .d (.int .i64 a0.Lost)]), (1, .var [.d (.int .i64 0), .d (eL (some 3) eapi_Item []), .d (.int .i64 0)]), (2, .var [.d (.int .u16 0), .d (.str (⟨#[]⟩ : ByteArray)), .d (.int .i64 0)]), (3, .var [.d (.int .u16 x2.Pt), .d (.str x2.Raw), .d (.int .i64 x2.N)])], 4⟩ ?_ ?_
    · refine step (v := .ptr 0 0 1) rfl ?_
      refine step (v := .d (eL (some 3) eapi_Item a0.L)) rfl ?_
      refine step (v := .d (eL (some 3) eapi_Item l3)) (st_slc (xs := a0.L) (e := eapi_Item) hl3 rfl ⟨_, rfl⟩ rfl) ?_
      refine step (v := .ptr 0 0 1) rfl ?_
      refine step (v := V.undef) (σ' := (upd (stab [(0, .var [.d (.int .i64 a0.Places), .d (eL (some 3) eapi_Item a0.L), .d (.int .i64 a0.Lost)]), (1, .var [.d (.int .i64 0), .d (eL (some 3) eapi_Item []), .d (.int .i64 0)]), (2, .var [.d (.int .u16 0), .d (.str (⟨#[]⟩ : ByteArray)), .d (.int .i64 0)]), (3, .var [.d (.int .u16 x2.Pt), .d (.str x2.Raw), .d (.int .i64 x2.N)])]) 0 (some (.var [.d (.int .i64 a0.Places), .d (eL (some 3) eapi_Item l3), .d (.int .i64 a0.Lost)])))) (n' := 4) rfl ?_
      exact RunOps.nil' (Norm.mk [0, 1, 2, 3] (by decide) (by decide) (by decide) ⟨.ptr 0 _ _ (show 0 < 4 by decide), .ptr 1 _ _ (show 1 < 4 by decide), .ptr 2 _ _ (show 2 < 4 by decide), .ptr 3 _ _ (show 3 < 4 by decide), trivial⟩ ⟨⟨show 0 < 4 by decide, _, rfl, .vars ⟨.d _, .d _, .d _, trivial⟩⟩, ⟨show 1 < 4 by decide, _, rfl, .vars ⟨.d _, .d _, .d _, trivial⟩⟩, ⟨show 2 < 4 by decide, _, rfl, .vars ⟨.d _, .d _, .d _, trivial⟩⟩, ⟨show 3 < 4 by decide, _, rfl, .vars ⟨.d _, .d _, .d _, trivial⟩⟩, trivial⟩)
    refine NWp.opsSJ ⟨tab [(2, .ptr 0 0 0), (3, .ptr 1 0 0), (4, .d (.bool true))], stab [(0, .var [.d (.int .i64 a0.Places), .d (eL (some 3) eapi_Item l3), .d (.int .i64 a0.Lost)]), (1, .var [.d (.int .u16 x2.Pt), .d (.str x2.Raw), .d (.int .i64 x2.N)])], 2⟩ ?_ ?_
    · refine stepL [0] [] (v := .d (eref16_Queue (ref16_Queue.mk a0.Places l3 a0.Lost))) (st_ldV (ds := [.int .i64 a0.Places, eL (some 3) eapi_Item l3, .int .i64 a0.Lost]) rfl rfl (show 3 ≤ 3 by decide) rfl) rfl rfl ?_
      refine stepL [3] [] (v := .d (eapi_Item x2)) (st_ldV (ds := [.int .u16 x2.Pt, .str x2.Raw, .int .i64 x2.N]) rfl rfl (show 3 ≤ 3 by decide) rfl) rfl rfl ?_
      refine stepL [1] [1] (v := V.undef) (σ' := (upd (stab [(0, .var [.d (.int .i64 a0.Places), .d (eL (some 3) eapi_Item l3), .d (.int .i64 a0.Lost)]), (1, .var [.d (.int .i64 0), .d (eL (some 3) eapi_Item []), .d (.int .i64 0)]), (2, .var [.d (.int .u16 0), .d (.str (⟨#[]⟩ : ByteArray)), .d (.int .i64 0)]), (3, .var [.d (.int .u16 x2.Pt), .d (.str x2.Raw), .d (.int .i64 x2.N)])]) 1 (some (.var [.d (.int .i64 a0.Places), .d (eL (some 3) eapi_Item l3), .d (.int .i64 a0.Lost)])))) (n' := 4) rfl rfl rfl ?_
      refine stepL [2] [2] (v := V.undef) (σ' := (upd (upd (stab [(0, .var [.d (.int .i64 a0.Places), .d (eL (some 3) eapi_Item l3), .d (.int .i64 a0.Lost)]), (1, .var [.d (.int .i64 0), .d (eL (some 3) eapi_Item []), .d (.int .i64 0)]), (2, .var [.d (.int .u16 0), .d (.str (⟨#[]⟩ : ByteArray)), .d (.int .i64 0)]), (3, .var [.d (.int .u16 x2.Pt), .d (.str x2.Raw), .d (.int .i64 x2.N)])]) 1 (some (.var [.d (.int .i64 a0.Places), .d (eL (some 3) eapi_Item l3), .d (.int .i64 a0.Lost)]))) 2 (some (.var [.d (.int .u16 x2.Pt), .d (.str x2.Raw), .d (.int .i64 x2.N)])))) (n' := 4) rfl rfl rfl ?_
      refine stepL [] [] (v := .d (.bool true)) rfl rfl rfl ?_
      exact RunOpsL.nil' ⟨by decide, Norm.mk [1, 2] (by decide) (by decide) (by decide) ⟨.ptr 0 _ _ (show 0 < 2 by decide), .ptr 1 _ _ (show 1 < 2 by decide), .d _, trivial⟩ ⟨⟨show 0 < 2 by decide, _, rfl, .vars ⟨.d _, .d _, .d _, trivial⟩⟩, ⟨show 1 < 2 by decide, _, rfl, .vars ⟨.d _, .d _, .d _, trivial⟩⟩, trivial⟩⟩
    have hh := Option.some.inj h
    subst hh
    refine NWp.ret ?_
    show FQ _ _ _ _
    exact FQ.mkT (.inr rfl) (res_cell (ds := [.int .i64 a0.Places, eL (some 3) eapi_Item l3, .int .i64 a0.Lost]) rfl rfl (show 3 ≤ 3 by decide) rfl (res_cell (ds := [.int .u16 x2.Pt, .str x2.Raw, .int .i64 x2.N]) rfl rfl (show 3 ≤ 3 by decide) rfl (res_t (v := .d (.bool true)) rfl rfl))) (RV.d (RV.d (RV.d trivial)))

theorem c_queue_Queue_Same {a0 : queue_Queue} {a1 : queue_Queue} {r : Bool} (h : queue_Queue_Same a0 a1 = some r) : PCall Try.prog 21 [.cptr (some 4) (equeue_Queue a0) 0, .cptr (some 4) (equeue_Queue a1) 0] (.bool r) := by
  refine PCall.introN ok21 (show 2 ≤ 43 by decide) ?_
  refine NWp.norm (s0 := ⟨tab [(0, .d (.cptr (some 4) (equeue_Queue a0) 0)), (1, .d (.cptr (some 4) (equeue_Queue a1) 0))], stab [], 0⟩) (Norm.mk [] (by decide) (by decide) (by decide) ⟨.d _, .d _, trivial⟩ trivial) ?_
  refine NWp.opsJ ⟨tab [(0, .d (.cptr (some 4) (equeue_Queue a0) 0)), (1, .d (.cptr (some 4) (equeue_Queue a1) 0))], stab [], 0⟩ ?_ ?_
  · refine step (v := .d (.bool false)) rfl ?_
    exact RunOps.nil' (Norm.mk [] (by decide) (by decide) (by decide) ⟨.d _, .d _, trivial⟩ trivial)
  refine NWp.seq ?_
  obtain ⟨r1, hr1, h⟩ := bindE h
  obtain ⟨r2, hr2, h⟩ := bindE h
  obtain ⟨y6, hv, h⟩ := bindE h
  refine NWp.opsJ ⟨tab [(0, .d (.cptr (some 4) (equeue_Queue a0) 0)), (1, .d (.cptr (some 4) (equeue_Queue a1) 0)), (21, .d (.bool y6))], stab [], 0⟩ ?_ ?_
  · refine step (v := .d (.cptr (some 4) (equeue_Queue a0) 0)) rfl ?_
    refine stepC (r := .int .i64 r1) (ArgsOk.dt ArgsOk.nil') (c_queue_Queue_Len hr1) ?_
    refine step (v := .d (.cptr (some 4) (equeue_Queue a1) 0)) rfl ?_
    refine stepC (r := .int .i64 r2) (ArgsOk.dt ArgsOk.nil') (c_queue_Queue_Len hr2) ?_
    refine step (v := .d (.bool (r1 != r2))) rfl ?_
    refine step (v := .d (.bool (r1 != r2))) rfl ?_
    by_cases hg3 : (r1 != r2) = true
    · replace hv := iteT hg3 hv
      refine stepX (c := (r1 != r2)) rfl (by rw [hg3]; decide) ?_
      refine stepX (c := (r1 != r2)) rfl (by rw [hg3]; decide) ?_
      refine stepX (c := (r1 != r2)) rfl (by rw [hg3]; decide) ?_
      refine stepX (c := (r1 != r2)) rfl (by rw [hg3]; decide) ?_
      refine stepX (c := (r1 != r2)) rfl (by rw [hg3]; decide) ?_
      refine step (v := .d (.bool true)) (st_pickT (b := (r1 != r2)) rfl hg3 rfl) ?_
      have hh := Option.some.inj hv
      subst hh
      exact RunOps.nil' (Norm.mk [] (by decide) (by decide) (by decide) ⟨.d _, .d _, .d _, trivial⟩ trivial)
    · replace hv := iteF hg3 hv
      obtain ⟨r4, hr4, hv⟩ := bindE hv
      obtain ⟨r5, hr5, hv⟩ := bindE hv
      refine stepG (c := (r1 != r2)) rfl (Bool.eq_false_iff.2 hg3) ?_
      refine step (v := .d (.cptr (some 4) (equeue_Queue a0) 0)) rfl ?_
      refine stepG (c := (r1 != r2)) rfl (Bool.eq_false_iff.2 hg3) ?_
      refine stepC (r := .int .i64 r4) (ArgsOk.dt ArgsOk.nil') (c_queue_Queue_Lost hr4) ?_
      refine stepG (c := (r1 != r2)) rfl (Bool.eq_false_iff.2 hg3) ?_
      refine step (v := .d (.cptr (some 4) (equeue_Queue a1) 0)) rfl ?_
      refine stepG (c := (r1 != r2)) rfl (Bool.eq_false_iff.2 hg3) ?_
      refine stepC (r := .int .i64 r5) (ArgsOk.dt ArgsOk.nil') (c_queue_Queue_Lost hr5) ?_
      refine stepG (c := (r1 != r2)) rfl (Bool.eq_false_iff.2 hg3) ?_
      refine step (v := .d (.bool (r4 != r5))) rfl ?_
      refine step (v := .d (.bool (r4 != r5))) (st_pickF (b := (r1 != r2)) rfl hg3 rfl) ?_
      have hh := Option.some.inj hv
      subst hh
      exact RunOps.nil' (Norm.mk [] (by decide) (by decide) (by decide) ⟨.d _, .d _, .d _, trivial⟩ trivial)
  by_cases hc8 : y6 = true
  · replace h := iteT hc8 h
    refine NWp.condT (t := y6) rfl hc8 ?_
    refine NWp.opsJ ⟨tab [(4, .d (.bool false))], stab [], 0⟩ ?_ ?_
    · refine step (v := .d (.bool false)) rfl ?_
      exact RunOps.nil' (Norm.mk [] (by decide) (by decide) (by decide) ⟨.d _, trivial⟩ trivial)
    have hh := Option.some.inj h
    subst hh
    refine NWp.ret ?_
    show FQ _ _ _ _
    exact FQ.mk1 (.inr rfl) (res_t (v := .d (.bool false)) rfl rfl) (RV.d trivial)
  · replace h := iteF hc8 h
    refine NWp.condF (t := y6) rfl hc8 ?_
    refine NWp.skip ?_
    refine NWp.seq ?_
    refine NWp.opsJ ⟨tab [(0, .d (.cptr (some 4) (equeue_Queue a0) 0)), (1, .d (.cptr (some 4) (equeue_Queue a1) 0)), (23, .d (.int .i64 r1)), (24, .d (.int .i64 0))], stab [], 0⟩ ?_ ?_
    · refine step (v := .d (.cptr (some 4) (equeue_Queue a0) 0)) rfl ?_
      refine stepC (r := .int .i64 r1) (ArgsOk.dt ArgsOk.nil') (c_queue_Queue_Len hr1) ?_
      refine step (v := .d (.int .i64 0)) rfl ?_
      exact RunOps.nil' (Norm.mk [] (by decide) (by decide) (by decide) ⟨.d _, .d _, .d _, .d _, trivial⟩ trivial)
    obtain ⟨q18, hl, h⟩ := bindE h
    refine NWp.block ?_
    refine loop_forR (cntU r1) (fun (i9 : Int) (qq : Unit) => ⟨tab [(0, .d (.cptr (some 4) (equeue_Queue a0) 0)), (1, .d (.cptr (some 4) (equeue_Queue a1) 0)), (23, .d (.int .i64 r1)), (24, .d (.int .i64 i9))], stab [], 0⟩) 0 (fun (qq : Unit) => ⟨tab [], stab [], 0⟩) Low low_step (r := r) hl (by unfold Low; omega) ?_ ?_ ?_ ?_
    · rintro i9 ⟨⟩ xr14 hinv12 hgo11 h
      show NWp _ _ _ _ _ ⟨tab [(0, .d (.cptr (some 4) (equeue_Queue a0) 0)), (1, .d (.cptr (some 4) (equeue_Queue a1) 0)), (23, .d (.int .i64 r1)), (24, .d (.int .i64 i9))], stab [], 0⟩
      have hc13 : decide (i9 < r1) = true := decide_eq_true hgo11
      refine NWp.opsJ ⟨tab [(0, .d (.cptr (some 4) (equeue_Queue a0) 0)), (1, .d (.cptr (some 4) (equeue_Queue a1) 0)), (23, .d (.int .i64 r1)), (24, .d (.int .i64 i9)), (25, .d (.bool (decide (i9 < r1))))], stab [], 0⟩ ?_ ?_
      · refine step (v := .d (.bool (decide (i9 < r1)))) rfl ?_
        exact RunOps.nil' (Norm.mk [] (by decide) (by decide) (by decide) ⟨.d _, .d _, .d _, .d _, .d _, trivial⟩ trivial)
      refine NWp.rng 23 rfl fun hB10 => ?_
      refine NWp.seq ?_
      refine NWp.condT (t := decide (i9 < r1)) rfl hc13 ?_
      refine NWp.skip ?_
      refine NWp.seq ?_
      refine NWp.block ?_
      refine NWp.opsJ ⟨tab [(0, .d (.cptr (some 4) (equeue_Queue a0) 0)), (1, .d (.cptr (some 4) (equeue_Queue a1) 0)), (5, .d (.int .i64 i9)), (23, .d (.int .i64 r1)), (24, .d (.int .i64 i9))], stab [], 0⟩ ?_ ?_
      · refine step (v := .d (.int .i64 i9)) rfl ?_
        refine step (v := .d (.int .i64 i9)) rfl ?_
        exact RunOps.nil' (Norm.mk [] (by decide) (by decide) (by decide) ⟨.d _, .d _, .d _, .d _, .d _, trivial⟩ trivial)
      obtain ⟨r15, hr15, h⟩ := bindE h
      refine NWp.opsJ ⟨tab [(0, .d (.cptr (some 4) (equeue_Queue a0) 0)), (1, .d (.cptr (some 4) (equeue_Queue a1) 0)), (5, .d (.int .i64 i9)), (6, .ptr 0 0 0), (23, .d (.int .i64 r1)), (24, .d (.int .i64 i9))], stab [(0, .var [.d (.int .u16 r15.1.Pt), .d (.str r15.1.Raw), .d (.int .i64 r15.1.N)])], 1⟩ ?_ ?_
      · refine step (v := .d (.cptr (some 4) (equeue_Queue a0) 0)) rfl ?_
        refine step (v := .d (.int .i64 i9)) rfl ?_
        refine stepC (r := .tup [eapi_Item r15.1, .bool r15.2]) (ArgsOk.dt (ArgsOk.dt ArgsOk.nil')) (c_queue_Queue_At hr15) ?_
        refine step (v := .d (.tup [eapi_Item r15.1, .bool r15.2])) rfl ?_
        refine step (v := .d (eapi_Item r15.1)) rfl ?_
        refine step (v := .d (.bool r15.2)) rfl ?_
        refine step (v := .ptr 0 0 0) (σ' := (upd (stab []) 0 (some (.var [.d (.int .u16 0), .d (.str (⟨#[]⟩ : ByteArray)), .d (.int .i64 0)])))) (n' := 1) rfl ?_
        refine step (v := V.undef) (σ' := (upd (upd (stab []) 0 (some (.var [.d (.int .u16 0), .d (.str (⟨#[]⟩ : ByteArray)), .d (.int .i64 0)]))) 0 (some (.var [.d (.int .u16 r15.1.Pt), .d (.str r15.1.Raw), .d (.int .i64 r15.1.N)])))) (n' := 1) rfl ?_
        refine step (v := .d (.bool r15.2)) rfl ?_
        exact RunOps.nil' (Norm.mk [0] (by decide) (by decide) (by decide) ⟨.d _, .d _, .d _, .ptr 0 _ _ (show 0 < 1 by decide), .d _, .d _, trivial⟩ ⟨⟨show 0 < 1 by decide, _, rfl, .vars ⟨.d _, .d _, .d _, trivial⟩⟩, trivial⟩)
      obtain ⟨r16, hr16, h⟩ := bindE h
      refine NWp.opsJ ⟨tab [(0, .d (.cptr (some 4) (equeue_Queue a0) 0)), (1, .d (.cptr (some 4) (equeue_Queue a1) 0)), (6, .ptr 0 0 0), (8, .ptr 1 0 0), (23, .d (.int .i64 r1)), (24, .d (.int .i64 i9))], stab [(0, .var [.d (.int .u16 r15.1.Pt), .d (.str r15.1.Raw), .d (.int .i64 r15.1.N)]), (1, .var [.d (.int .u16 r16.1.Pt), .d (.str r16.1.Raw), .d (.int .i64 r16.1.N)])], 2⟩ ?_ ?_
      · refine step (v := .d (.cptr (some 4) (equeue_Queue a1) 0)) rfl ?_
        refine step (v := .d (.int .i64 i9)) rfl ?_
        refine stepC (r := .tup [eapi_Item r16.1, .bool r16.2]) (ArgsOk.dt (ArgsOk.dt ArgsOk.nil')) (c_queue_Queue_At hr16) ?_
        refine step (v := .d (.tup [eapi_Item r16.1, .bool r16.2])) rfl ?_
        refine step (v := .d (eapi_Item r16.1)) rfl ?_
        refine step (v := .d (.bool r16.2)) rfl ?_
        refine step (v := .ptr 1 0 0) (σ' := (upd (stab [(0, .var [.d (.int .u16 r15.1.Pt), .d (.str r15.1.Raw), .d (.int .i64 r15.1.N)])]) 1 (some (.var [.d (.int .u16 0), .d (.str (⟨#[]⟩ : ByteArray)), .d (.int .i64 0)])))) (n' := 2) rfl ?_
        refine step (v := V.undef) (σ' := (upd (upd (stab [(0, .var [.d (.int .u16 r15.1.Pt), .d (.str r15.1.Raw), .d (.int .i64 r15.1.N)])]) 1 (some (.var [.d (.int .u16 0), .d (.str (⟨#[]⟩ : ByteArray)), .d (.int .i64 0)]))) 1 (some (.var [.d (.int .u16 r16.1.Pt), .d (.str r16.1.Raw), .d (.int .i64 r16.1.N)])))) (n' := 2) rfl ?_
        refine step (v := .d (.bool r16.2)) rfl ?_
        exact RunOps.nil' (Norm.mk [0, 1] (by decide) (by decide) (by decide) ⟨.d _, .d _, .ptr 0 _ _ (show 0 < 2 by decide), .ptr 1 _ _ (show 1 < 2 by decide), .d _, .d _, trivial⟩ ⟨⟨show 0 < 2 by decide, _, rfl, .vars ⟨.d _, .d _, .d _, trivial⟩⟩, ⟨show 1 < 2 by decide, _, rfl, .vars ⟨.d _, .d _, .d _, trivial⟩⟩, trivial⟩)
      refine NWp.opsJ ⟨tab [(0, .d (.cptr (some 4) (equeue_Queue a0) 0)), (1, .d (.cptr (some 4) (equeue_Queue a1) 0)), (23, .d (.int .i64 r1)), (24, .d (.int .i64 i9)), (41, .d (.bool (!(r15.1 == r16.1))))], stab [], 0⟩ ?_ ?_
      · refine step (v := .d (eapi_Item r15.1)) (st_ldV (ds := [.int .u16 r15.1.Pt, .str r15.1.Raw, .int .i64 r15.1.N]) rfl rfl (show 3 ≤ 3 by decide) rfl) ?_
        refine step (v := .d (eapi_Item r16.1)) (st_ldV (ds := [.int .u16 r16.1.Pt, .str r16.1.Raw, .int .i64 r16.1.N]) rfl rfl (show 3 ≤ 3 by decide) rfl) ?_
        refine step (v := .d (.bool (!(r15.1 == r16.1)))) (st_eqS (neg := true) rfl rfl (eqS_api_Item r15.1 r16.1)) ?_
        exact RunOps.nil' (Norm.mk [] (by decide) (by decide) (by decide) ⟨.d _, .d _, .d _, .d _, .d _, trivial⟩ trivial)
      by_cases hc17 : (!(r15.1 == r16.1)) = true
      · replace h := iteT hc17 h
        refine NWp.condT (t := (!(r15.1 == r16.1))) rfl hc17 ?_
        refine NWp.opsJ ⟨tab [(4, .d (.bool false))], stab [], 0⟩ ?_ ?_
        · refine step (v := .d (.bool false)) rfl ?_
          exact RunOps.nil' (Norm.mk [] (by decide) (by decide) (by decide) ⟨.d _, trivial⟩ trivial)
        obtain ⟨r18, kr18, hr⟩ := mapE (o := some false) (g := Br.ret) h
        subst hr
        have h := kr18
        have hh := Option.some.inj h
        subst hh
        refine NWp.ret ?_
        refine And.intro (fun hn => nomatch hn) ?_
        intro hq
        have hq := hq.symm
        subst hq
        show FQ _ _ _ _
        exact FQ.mk1 (.inr rfl) (res_t (v := .d (.bool false)) rfl rfl) (RV.d trivial)
      · replace h := iteF hc17 h
        refine NWp.condF (t := (!(r15.1 == r16.1))) rfl hc17 ?_
        refine NWp.skip ?_
        have hh := Option.some.inj h
        subst hh
        refine NWp.opsE ⟨tab [(0, .d (.cptr (some 4) (equeue_Queue a0) 0)), (1, .d (.cptr (some 4) (equeue_Queue a1) 0)), (23, .d (.int .i64 r1)), (24, .d (.int .i64 (i9 + 1)))], stab [], 0⟩ ?_ ?_
        · refine step (v := .d (.int .i64 (i9 + 1))) (st_inc (inc_ok hinv12 hgo11 hB10) rfl rfl) ?_
          refine step (v := .d (.int .i64 (i9 + 1))) rfl ?_
          exact RunOps.nil' (Norm.mk [] (by decide) (by decide) (by decide) ⟨.d _, .d _, .d _, .d _, trivial⟩ trivial)
        exact And.intro rfl rfl
    · rintro i9 ⟨⟩ hinv12 hgo11
      show NWp _ _ _ _ _ ⟨tab [(0, .d (.cptr (some 4) (equeue_Queue a0) 0)), (1, .d (.cptr (some 4) (equeue_Queue a1) 0)), (23, .d (.int .i64 r1)), (24, .d (.int .i64 i9))], stab [], 0⟩
      have hc13 : ¬ (decide (i9 < r1) = true) := fun hq => hgo11 (of_decide_eq_true hq)
      refine NWp.opsJ ⟨tab [(0, .d (.cptr (some 4) (equeue_Queue a0) 0)), (1, .d (.cptr (some 4) (equeue_Queue a1) 0)), (23, .d (.int .i64 r1)), (24, .d (.int .i64 i9)), (25, .d (.bool (decide (i9 < r1))))], stab [], 0⟩ ?_ ?_
      · refine step (v := .d (.bool (decide (i9 < r1)))) rfl ?_
        exact RunOps.nil' (Norm.mk [] (by decide) (by decide) (by decide) ⟨.d _, .d _, .d _, .d _, .d _, trivial⟩ trivial)
      refine NWp.seq ?_
      refine NWp.condF (t := decide (i9 < r1)) rfl hc13 ?_
      refine NWp.norm (s0 := ⟨tab [], stab [], 0⟩) (Norm.mk [] (by decide) (by decide) (by decide) trivial trivial) ?_
      refine NWp.exit ?_
      exact And.intro rfl rfl
    · intro r' hq
      subst hq
      exact Option.some.inj h
    rintro ⟨⟩ rfl
    refine NWp.opsJ ⟨tab [(4, .d (.bool true))], stab [], 0⟩ ?_ ?_
    · refine step (v := .d (.bool true)) rfl ?_
      exact RunOps.nil' (Norm.mk [] (by decide) (by decide) (by decide) ⟨.d _, trivial⟩ trivial)
    have hh := Option.some.inj h
    subst hh
    refine NWp.ret ?_
    show FQ _ _ _ _
    exact FQ.mk1 (.inr rfl) (res_t (v := .d (.bool true)) rfl rfl) (RV.d trivial)

theorem c_queue_Queue_Len_nil1  {r : Int} (h : queue_Queue_Len_nil1  = some r) : PCall Try.prog 18 [.nilp] (.int .i64 r) := by
  refine PCall.introN ok18 (show 1 ≤ 9 by decide) ?_
  refine NWp.norm (s0 := ⟨tab [(0, .d (.nilp))], stab [], 0⟩) (Norm.mk [] (by decide) (by decide) (by decide) ⟨.d _, trivial⟩ trivial) ?_
  refine NWp.opsJ ⟨tab [(0, .d (.nilp))], stab [], 0⟩ ?_ ?_
  · refine step (v := .d (.int .i64 0)) rfl ?_
    exact RunOps.nil' (Norm.mk [] (by decide) (by decide) (by decide) ⟨.d _, trivial⟩ trivial)
  refine NWp.seq ?_
  refine NWp.opsJ ⟨tab [(0, .d (.nilp)), (4, .d (.bool true))], stab [], 0⟩ ?_ ?_
  · refine step (v := .d (.nilp)) rfl ?_
    refine step (v := .d (.bool true)) rfl ?_
    exact RunOps.nil' (Norm.mk [] (by decide) (by decide) (by decide) ⟨.d _, .d _, trivial⟩ trivial)
  refine NWp.condT (t := true) rfl rfl ?_
  refine NWp.opsJ ⟨tab [(2, .d (.int .i64 0))], stab [], 0⟩ ?_ ?_
  · refine step (v := .d (.int .i64 0)) rfl ?_
    exact RunOps.nil' (Norm.mk [] (by decide) (by decide) (by decide) ⟨.d _, trivial⟩ trivial)
  have hh := Option.some.inj h
  subst hh
  refine NWp.ret ?_
  show FQ _ _ _ _
  exact FQ.mk1 (.inr rfl) (res_t (v := .d (.int .i64 0)) rfl rfl) (RV.d trivial)

theorem c_queue_Queue_Lost_nil1  {r : Int} (h : queue_Queue_Lost_nil1  = some r) : PCall Try.prog 19 [.nilp] (.int .i64 r) := by
  refine PCall.introN ok19 (show 1 ≤ 9 by decide) ?_
  refine NWp.norm (s0 := ⟨tab [(0, .d (.nilp))], stab [], 0⟩) (Norm.mk [] (by decide) (by decide) (by decide) ⟨.d _, trivial⟩ trivial) ?_
  refine NWp.opsJ ⟨tab [(0, .d (.nilp))], stab [], 0⟩ ?_ ?_
  · refine step (v := .d (.int .i64 0)) rfl ?_
    exact RunOps.nil' (Norm.mk [] (by decide) (by decide) (by decide) ⟨.d _, trivial⟩ trivial)
  refine NWp.seq ?_
  refine NWp.opsJ ⟨tab [(0, .d (.nilp)), (4, .d (.bool true))], stab [], 0⟩ ?_ ?_
  · refine step (v := .d (.nilp)) rfl ?_
    refine step (v := .d (.bool true)) rfl ?_
    exact RunOps.nil' (Norm.mk [] (by decide) (by decide) (by decide) ⟨.d _, .d _, trivial⟩ trivial)
  refine NWp.condT (t := true) rfl rfl ?_
  refine NWp.opsJ ⟨tab [(2, .d (.int .i64 0))], stab [], 0⟩ ?_ ?_
  · refine step (v := .d (.int .i64 0)) rfl ?_
    exact RunOps.nil' (Norm.mk [] (by decide) (by decide) (by decide) ⟨.d _, trivial⟩ trivial)
  have hh := Option.some.inj h
  subst hh
  refine NWp.ret ?_
  show FQ _ _ _ _
  exact FQ.mk1 (.inr rfl) (res_t (v := .d (.int .i64 0)) rfl rfl) (RV.d trivial)

theorem c_queue_Queue_At_nil1 {a1 : Int} {r : (api_Item × Bool)} (h : queue_Queue_At_nil1 a1 = some r) : PCall Try.prog 20 [.nilp, .int .i64 a1] (.tup [eapi_Item r.1, .bool r.2]) := by
  refine PCall.introN ok20 (show 2 ≤ 30 by decide) ?_
  refine NWp.norm (s0 := ⟨tab [(0, .d (.nilp)), (1, .d (.int .i64 a1))], stab [], 0⟩) (Norm.mk [] (by decide) (by decide) (by decide) ⟨.d _, .d _, trivial⟩ trivial) ?_
  refine NWp.opsJ ⟨tab [(0, .d (.nilp)), (1, .d (.int .i64 a1)), (4, .ptr 0 0 0)], stab [(0, .var [.d (.int .u16 0), .d (.str (⟨#[]⟩ : ByteArray)), .d (.int .i64 0)])], 1⟩ ?_ ?_
  · refine step (v := .ptr 0 0 0) (σ' := (upd (stab []) 0 (some (.var [.d (.int .u16 0), .d (.str (⟨#[]⟩ : ByteArray)), .d (.int .i64 0)])))) (n' := 1) rfl ?_
    refine step (v := .d (.bool false)) rfl ?_
    exact RunOps.nil' (Norm.mk [0] (by decide) (by decide) (by decide) ⟨.d _, .d _, .ptr 0 _ _ (show 0 < 1 by decide), trivial⟩ ⟨⟨show 0 < 1 by decide, _, rfl, .vars ⟨.d _, .d _, .d _, trivial⟩⟩, trivial⟩)
  refine NWp.seq ?_
  refine NWp.opsJ ⟨tab [(0, .d (.nilp)), (1, .d (.int .i64 a1)), (4, .ptr 0 0 0), (19, .d (.bool true))], stab [(0, .var [.d (.int .u16 0), .d (.str (⟨#[]⟩ : ByteArray)), .d (.int .i64 0)])], 1⟩ ?_ ?_
  · refine step (v := .d (.nilp)) rfl ?_
    refine step (v := .d (.bool true)) rfl ?_
    refine step (v := .d (.bool true)) rfl ?_
    refine stepX (c := true) rfl (by decide) ?_
    refine stepX (c := true) rfl (by decide) ?_
    refine step (v := .d (.bool true)) (st_pickT (b := true) rfl rfl rfl) ?_
    refine step (v := .d (.bool true)) rfl ?_
    refine stepX (c := true) rfl (by decide) ?_
    refine stepX (c := true) rfl (by decide) ?_
    refine stepX (c := true) rfl (by decide) ?_
    refine stepX (c := true) rfl (by decide) ?_
    refine stepX (c := true) rfl (by decide) ?_
    refine stepX (c := true) rfl (by decide) ?_
    refine step (v := .d (.bool true)) (st_pickT (b := true) rfl rfl rfl) ?_
    exact RunOps.nil' (Norm.mk [0] (by decide) (by decide) (by decide) ⟨.d _, .d _, .ptr 0 _ _ (show 0 < 1 by decide), .d _, trivial⟩ ⟨⟨show 0 < 1 by decide, _, rfl, .vars ⟨.d _, .d _, .d _, trivial⟩⟩, trivial⟩)
  refine NWp.condT (t := true) rfl rfl ?_
  refine NWp.opsJ ⟨tab [(4, .ptr 0 0 0), (5, .d (.bool false))], stab [(0, .var [.d (.int .u16 0), .d (.str (⟨#[]⟩ : ByteArray)), .d (.int .i64 0)])], 1⟩ ?_ ?_
  · refine step (v := .d (eapi_Item (api_Item.mk 0 (⟨#[]⟩ : ByteArray) 0))) (st_build (ds := [.int .u16 0, .str (⟨#[]⟩ : ByteArray), .int .i64 0]) rfl) ?_
    refine step (v := V.undef) (σ' := (upd (stab [(0, .var [.d (.int .u16 0), .d (.str (⟨#[]⟩ : ByteArray)), .d (.int .i64 0)])]) 0 (some (.var [.d (.int .u16 0), .d (.str (⟨#[]⟩ : ByteArray)), .d (.int .i64 0)])))) (n' := 1) rfl ?_
    refine step (v := .d (.bool false)) rfl ?_
    exact RunOps.nil' (Norm.mk [0] (by decide) (by decide) (by decide) ⟨.ptr 0 _ _ (show 0 < 1 by decide), .d _, trivial⟩ ⟨⟨show 0 < 1 by decide, _, rfl, .vars ⟨.d _, .d _, .d _, trivial⟩⟩, trivial⟩)
  have hh := Option.some.inj h
  subst hh
  refine NWp.ret ?_
  show FQ _ _ _ _
  exact FQ.mkT (.inr rfl) (res_cell (ds := [.int .u16 0, .str (⟨#[]⟩ : ByteArray), .int .i64 0]) rfl rfl (show 3 ≤ 3 by decide) rfl (res_t (v := .d (.bool false)) rfl rfl)) (RV.d (RV.d trivial))

theorem c_queue_Queue_Same_nil1 {a1 : queue_Queue} {r : Bool} (h : queue_Queue_Same_nil1 a1 = some r) : PCall Try.prog 21 [.nilp, .cptr (some 4) (equeue_Queue a1) 0] (.bool r) := by
  refine PCall.introN ok21 (show 2 ≤ 43 by decide) ?_
  refine NWp.norm (s0 := ⟨tab [(0, .d (.nilp)), (1, .d (.cptr (some 4) (equeue_Queue a1) 0))], stab [], 0⟩) (Norm.mk [] (by decide) (by decide) (by decide) ⟨.d _, .d _, trivial⟩ trivial) ?_
  refine NWp.opsJ ⟨tab [(0, .d (.nilp)), (1, .d (.cptr (some 4) (equeue_Queue a1) 0))], stab [], 0⟩ ?_ ?_
  · refine step (v := .d (.bool false)) rfl ?_
    exact RunOps.nil' (Norm.mk [] (by decide) (by decide) (by decide) ⟨.d _, .d _, trivial⟩ trivial)
  refine NWp.seq ?_
  obtain ⟨r1, hr1, h⟩ := bindE h
  obtain ⟨r2, hr2, h⟩ := bindE h
  obtain ⟨y6, hv, h⟩ := bindE h
  refine NWp.opsJ ⟨tab [(0, .d (.nilp)), (1, .d (.cptr (some 4) (equeue_Queue a1) 0)), (21, .d (.bool y6))], stab [], 0⟩ ?_ ?_
  · refine step (v := .d (.nilp)) rfl ?_
    refine stepC (r := .int .i64 r1) (ArgsOk.dt ArgsOk.nil') (c_queue_Queue_Len_nil1 hr1) ?_
    refine step (v := .d (.cptr (some 4) (equeue_Queue a1) 0)) rfl ?_
    refine stepC (r := .int .i64 r2) (ArgsOk.dt ArgsOk.nil') (c_queue_Queue_Len hr2) ?_
    refine step (v := .d (.bool (r1 != r2))) rfl ?_
    refine step (v := .d (.bool (r1 != r2))) rfl ?_
    by_cases hg3 : (r1 != r2) = true
    · replace hv := iteT hg3 hv
      refine stepX (c := (r1 != r2)) rfl (by rw [hg3]; decide) ?_
      refine stepX (c := (r1 != r2)) rfl (by rw [hg3]; decide) ?_
      refine stepX (c := (r1 != r2)) rfl (by rw [hg3]; decide) ?_
      refine stepX (c := (r1 != r2)) rfl (by rw [hg3]; decide) ?_
      refine stepX (c := (r1 != r2)) rfl (by rw [hg3]; decide) ?_
      refine step (v := .d (.bool true)) (st_pickT (b := (r1 != r2)) rfl hg3 rfl) ?_
      have hh := Option.some.inj hv
      subst hh
      exact RunOps.nil' (Norm.mk [] (by decide) (by decide) (by decide) ⟨.d _, .d _, .d _, trivial⟩ trivial)
    · replace hv := iteF hg3 hv
      obtain ⟨r4, hr4, hv⟩ := bindE hv
      obtain ⟨r5, hr5, hv⟩ := bindE hv
      refine stepG (c := (r1 != r2)) rfl (Bool.eq_false_iff.2 hg3) ?_
      refine step (v := .d (.nilp)) rfl ?_
      refine stepG (c := (r1 != r2)) rfl (Bool.eq_false_iff.2 hg3) ?_
      refine stepC (r := .int .i64 r4) (ArgsOk.dt ArgsOk.nil') (c_queue_Queue_Lost_nil1 hr4) ?_
      refine stepG (c := (r1 != r2)) rfl (Bool.eq_false_iff.2 hg3) ?_
      refine step (v := .d (.cptr (some 4) (equeue_Queue a1) 0)) rfl ?_
      refine stepG (c := (r1 != r2)) rfl (Bool.eq_false_iff.2 hg3) ?_
      refine stepC (r := .int .i64 r5) (ArgsOk.dt ArgsOk.nil') (c_queue_Queue_Lost hr5) ?_
      refine stepG (c := (r1 != r2)) rfl (Bool.eq_false_iff.2 hg3) ?_
      refine step (v := .d (.bool (r4 != r5))) rfl ?_
      refine step (v := .d (.bool (r4 != r5))) (st_pickF (b := (r1 != r2)) rfl hg3 rfl) ?_
      have hh := Option.some.inj hv
      subst hh
      exact RunOps.nil' (Norm.mk [] (by decide) (by decide) (by decide) ⟨.d _, .d _, .d _, trivial⟩ trivial)
  by_cases hc8 : y6 = true
  · replace h := iteT hc8 h
    refine NWp.condT (t := y6) rfl hc8 ?_
    refine NWp.opsJ ⟨tab [(4, .d (.bool false))], stab [], 0⟩ ?_ ?_
    · refine step (v := .d (.bool false)) rfl ?_
      exact RunOps.nil' (Norm.mk [] (by decide) (by decide) (by decide) ⟨.d _, trivial⟩ trivial)
    have hh := Option.some.inj h
    subst hh
    refine NWp.ret ?_
    show FQ _ _ _ _
    exact FQ.mk1 (.inr rfl) (res_t (v := .d (.bool false)) rfl rfl) (RV.d trivial)
  · replace h := iteF hc8 h
    refine NWp.condF (t := y6) rfl hc8 ?_
    refine NWp.skip ?_
    refine NWp.seq ?_
    refine NWp.opsJ ⟨tab [(0, .d (.nilp)), (1, .d (.cptr (some 4) (equeue_Queue a1) 0)), (23, .d (.int .i64 r1)), (24, .d (.int .i64 0))], stab [], 0⟩ ?_ ?_
    · refine step (v := .d (.nilp)) rfl ?_
      refine stepC (r := .int .i64 r1) (ArgsOk.dt ArgsOk.nil') (c_queue_Queue_Len_nil1 hr1) ?_
      refine step (v := .d (.int .i64 0)) rfl ?_
      exact RunOps.nil' (Norm.mk [] (by decide) (by decide) (by decide) ⟨.d _, .d _, .d _, .d _, trivial⟩ trivial)
    obtain ⟨q18, hl, h⟩ := bindE h
    refine NWp.block ?_
    refine loop_forR (cntU r1) (fun (i9 : Int) (qq : Unit) => ⟨tab [(0, .d (.nilp)), (1, .d (.cptr (some 4) (equeue_Queue a1) 0)), (23, .d (.int .i64 r1)), (24, .d (.int .i64 i9))], stab [], 0⟩) 0 (fun (qq : Unit) => ⟨tab [], stab [], 0⟩) Low low_step (r := r) hl (by unfold Low; omega) ?_ ?_ ?_ ?_
    · rintro i9 ⟨⟩ xr14 hinv12 hgo11 h
      show NWp _ _ _ _ _ ⟨tab [(0, .d (.nilp)), (1, .d (.cptr (some 4) (equeue_Queue a1) 0)), (23, .d (.int .i64 r1)), (24, .d (.int .i64 i9))], stab [], 0⟩
      have hc13 : decide (i9 < r1) = true := decide_eq_true hgo11
      refine NWp.opsJ ⟨tab [(0, .d (.nilp)), (1, .d (.cptr (some 4) (equeue_Queue a1) 0)), (23, .d (.int .i64 r1)), (24, .d (.int .i64 i9)), (25, .d (.bool (decide (i9 < r1))))], stab [], 0⟩ ?_ ?_
      · refine step (v := .d (.bool (decide (i9 < r1)))) rfl ?_
        exact RunOps.nil' (Norm.mk [] (by decide) (by decide) (by decide) ⟨.d _, .d _, .d _, .d _, .d _, trivial⟩ trivial)
      refine NWp.rng 23 rfl fun hB10 => ?_
      refine NWp.seq ?_
      refine NWp.condT (t := decide (i9 < r1)) rfl hc13 ?_
      refine NWp.skip ?_
      refine NWp.seq ?_
      refine NWp.block ?_
      refine NWp.opsJ ⟨tab [(0, .d (.nilp)), (1, .d (.cptr (some 4) (equeue_Queue a1) 0)), (5, .d (.int .i64 i9)), (23, .d (.int .i64 r1)), (24, .d (.int .i64 i9))], stab [], 0⟩ ?_ ?_
      · refine step (v := .d (.int .i64 i9)) rfl ?_
        refine step (v := .d (.int .i64 i9)) rfl ?_
        exact RunOps.nil' (Norm.mk [] (by decide) (by decide) (by decide) ⟨.d _, .d _, .d _, .d _, .d _, trivial⟩ trivial)
      obtain ⟨r15, hr15, h⟩ := bindE h
      refine NWp.opsJ ⟨tab [(0, .d (.nilp)), (1, .d (.cptr (some 4) (equeue_Queue a1) 0)), (5, .d (.int .i64 i9)), (6, .ptr 0 0 0), (23, .d (.int .i64 r1)), (24, .d (.int .i64 i9))], stab [(0, .var [.d (.int .u16 r15.1.Pt), .d (.str r15.1.Raw), .d (.int .i64 r15.1.N)])], 1⟩ ?_ ?_
      · refine step (v := .d (.nilp)) rfl ?_
        refine step (v := .d (.int .i64 i9)) rfl ?_
        refine stepC (r := .tup [eapi_Item r15.1, .bool r15.2]) (ArgsOk.dt (ArgsOk.dt ArgsOk.nil')) (c_queue_Queue_At_nil1 hr15) ?_
        refine step (v := .d (.tup [eapi_Item r15.1, .bool r15.2])) rfl ?_
        refine step (v := .d (eapi_Item r15.1)) rfl ?_
        refine step (v := .d (.bool r15.2)) rfl ?_
        refine step (v := .ptr 0 0 0) (σ' := (upd (stab []) 0 (some (.var [.d (.int .u16 0), .d (.str (⟨#[]⟩ : ByteArray)), .d (.int .i64 0)])))) (n' := 1) rfl ?_
        refine step (v := V.undef) (σ' := (upd (upd (stab []) 0 (some (.var [.d (.int .u16 0), .d (.str (⟨#[]⟩ : ByteArray)), .d (.int .i64 0)]))) 0 (some (.var [.d (.int .u16 r15.1.Pt), .d (.str r15.1.Raw), .d (.int .i64 r15.1.N)])))) (n' := 1) rfl ?_
        refine step (v := .d (.bool r15.2)) rfl ?_
        exact RunOps.nil' (Norm.mk [0] (by decide) (by decide) (by decide) ⟨.d _, .d _, .d _, .ptr 0 _ _ (show 0 < 1 by decide), .d _, .d _, trivial⟩ ⟨⟨show 0 < 1 by decide, _, rfl, .vars ⟨.d _, .d _, .d _, trivial⟩⟩, trivial⟩)
      obtain ⟨r16, hr16, h⟩ := bindE h
      refine NWp.opsJ ⟨tab [(0, .d (.nilp)), (1, .d (.cptr (some 4) (equeue_Queue a1) 0)), (6, .ptr 0 0 0), (8, .ptr 1 0 0), (23, .d (.int .i64 r1)), (24, .d (.int .i64 i9))], stab [(0, .var [.d (.int .u16 r15.1.Pt), .d (.str r15.1.Raw), .d (.int .i64 r15.1.N)]), (1, .var [.d (.int .u16 r16.1.Pt), .d (.str r16.1.Raw), .d (.int .i64 r16.1.N)])], 2⟩ ?_ ?_
      · refine step (v := .d (.cptr (some 4) (equeue_Queue a1) 0)) rfl ?_
        refine step (v := .d (.int .i64 i9)) rfl ?_
        refine stepC (r := .tup [eapi_Item r16.1, .bool r16.2]) (ArgsOk.dt (ArgsOk.dt ArgsOk.nil')) (c_queue_Queue_At hr16) ?_
        refine step (v := .d (.tup [eapi_Item r16.1, .bool r16.2])) rfl ?_
        refine step (v := .d (eapi_Item r16.1)) rfl ?_
        refine step (v := .d (.bool r16.2)) rfl ?_
        refine step (v := .ptr 1 0 0) (σ' := (upd (stab [(0, .var [.d (.int .u16 r15.1.Pt), .d (.str r15.1.Raw), .d (.int .i64 r15.1.N)])]) 1 (some (.var [.d (.int .u16 0), .d (.str (⟨#[]⟩ : ByteArray)), .d (.int .i64 0)])))) (n' := 2) rfl ?_
        refine step (v := V.undef) (σ' := (upd (upd (stab [(0, .var [.d (.int .u16 r15.1.Pt), .d (.str r15.1.Raw), .d (.int .i64 r15.1.N)])]) 1 (some (.var [.d (.int .u16 0), .d (.str (⟨#[]⟩ : ByteArray)), .d (.int .i64 0)]))) 1 (some (.var [.d (.int .u16 r16.1.Pt), .d (.str r16.1.Raw), .d (.int .i64 r16.1.N)])))) (n' := 2) rfl ?_
        refine step (v := .d (.bool r16.2)) rfl ?_
        exact RunOps.nil' (Norm.mk [0, 1] (by decide) (by decide) (by decide) ⟨.d _, .d _, .ptr 0 _ _ (show 0 < 2 by decide), .ptr 1 _ _ (show 1 < 2 by decide), .d _, .d _, trivial⟩ ⟨⟨show 0 < 2 by decide, _, rfl, .vars ⟨.d _, .d _, .d _, trivial⟩⟩, ⟨show 1 < 2 by decide, _, rfl, .vars ⟨.d _, .d _, .d _, trivial⟩⟩, trivial⟩)
      refine NWp.opsJ ⟨tab [(0, .d (.nilp)), (1, .d (.cptr (some 4) (equeue_Queue a1) 0)), (23, .d (.int .i64 r1)), (24, .d (.int .i64 i9)), (41, .d (.bool (!(r15.1 == r16.1))))], stab [], 0⟩ ?_ ?_
      · refine step (v := .d (eapi_Item r15.1)) (st_ldV (ds := [.int .u16 r15.1.Pt, .str r15.1.Raw, .int .i64 r15.1.N]) rfl rfl (show 3 ≤ 3 by decide) rfl) ?_
        refine step (v := .d (eapi_Item r16.1)) (st_ldV (ds := [.int .u16 r16.1.Pt, .str r16.1.Raw, .int .i64 r16.1.N]) rfl rfl (show 3 ≤ 3 by decide) rfl) ?_
        refine step (v := .d (.bool (!(r15.1 == r16.1)))) (st_eqS (neg := true) rfl rfl (eqS_api_Item r15.1 r16.1)) ?_
        exact RunOps.nil' (Norm.mk [] (by decide) (by decide) (by decide) ⟨.d _, .d _, .d _, .d _, .d _, trivial⟩ trivial)
      by_cases hc17 : (!(r15.1 == r16.1)) = true
      · replace h := iteT hc17 h
        refine NWp.condT (t := (!(r15.1 == r16.1))) rfl hc17 ?_
        refine NWp.opsJ ⟨tab [(4, .d (.bool false))], stab [], 0⟩ ?_ ?_
        · refine step (v := .d (.bool false)) rfl ?_
          exact RunOps.nil' (Norm.mk [] (by decide) (by decide) (by decide) ⟨.d _, trivial⟩ trivial)
        obtain ⟨r18, kr18, hr⟩ := mapE (o := some false) (g := Br.ret) h
        subst hr
        have h := kr18
        have hh := Option.some.inj h
        subst hh
        refine NWp.ret ?_
        refine And.intro (fun hn => nomatch hn) ?_
        intro hq
        have hq := hq.symm
        subst hq
        show FQ _ _ _ _
        exact FQ.mk1 (.inr rfl) (res_t (v := .d (.bool false)) rfl rfl) (RV.d trivial)
      · replace h := iteF hc17 h
        refine NWp.condF (t := (!(r15.1 == r16.1))) rfl hc17 ?_
        refine NWp.skip ?_
        have hh := Option.some.inj h
        subst hh
        refine NWp.opsE ⟨tab [(0, .d (.nilp)), (1, .d (.cptr (some 4) (equeue_Queue a1) 0)), (23, .d (.int .i64 r1)), (24, .d (.int .i64 (i9 + 1)))], stab [], 0⟩ ?_ ?_
        · refine step (v := .d (.int .i64 (i9 + 1))) (st_inc (inc_ok hinv12 hgo11 hB10) rfl rfl) ?_
          refine step (v := .d (.int .i64 (i9 + 1))) rfl ?_
          exact RunOps.nil' (Norm.mk [] (by decide) (by decide) (by decide) ⟨.d _, .d _, .d _, .d _, trivial⟩ trivial)
        exact And.intro rfl rfl
    · rintro i9 ⟨⟩ hinv12 hgo11
      show NWp _ _ _ _ _ ⟨tab [(0, .d (.nilp)), (1, .d (.cptr (some 4) (equeue_Queue a1) 0)), (23, .d (.int .i64 r1)), (24, .d (.int .i64 i9))], stab [], 0⟩
      have hc13 : ¬ (decide (i9 < r1) = true) := fun hq => hgo11 (of_decide_eq_true hq)
      refine NWp.opsJ ⟨tab [(0, .d (.nilp)), (1, .d (.cptr (some 4) (equeue_Queue a1) 0)), (23, .d (.int .i64 r1)), (24, .d (.int .i64 i9)), (25, .d (.bool (decide (i9 < r1))))], stab [], 0⟩ ?_ ?_
      · refine step (v := .d (.bool (decide (i9 < r1)))) rfl ?_
        exact RunOps.nil' (Norm.mk [] (by decide) (by decide) (by decide) ⟨.d _, .d _, .d _, .d _, .d _, trivial⟩ trivial)
      refine NWp.seq ?_
      refine NWp.condF (t := decide (i9 < r1)) rfl hc13 ?_
      refine NWp.norm (s0 := ⟨tab [], stab [], 0⟩) (Norm.mk [] (by decide) (by decide) (by decide) trivial trivial) ?_
      refine NWp.exit ?_
      exact And.intro rfl rfl
    · intro r' hq
      subst hq
      exact Option.some.inj h
    rintro ⟨⟩ rfl
    refine NWp.opsJ ⟨tab [(4, .d (.bool true))], stab [], 0⟩ ?_ ?_
    · refine step (v := .d (.bool true)) rfl ?_
      exact RunOps.nil' (Norm.mk [] (by decide) (by decide) (by decide) ⟨.d _, trivial⟩ trivial)
    have hh := Option.some.inj h
    subst hh
    refine NWp.ret ?_
    show FQ _ _ _ _
    exact FQ.mk1 (.inr rfl) (res_t (v := .d (.bool true)) rfl rfl) (RV.d trivial)


end Go.AM
