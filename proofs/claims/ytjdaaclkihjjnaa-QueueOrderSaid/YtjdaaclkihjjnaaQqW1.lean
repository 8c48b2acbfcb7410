import Derived.Test.YtjdaaclkihjjnaaQqE
/-  What they are in the program: walks. -/
set_option linter.unusedVariables false
set_option linter.unusedSimpArgs false
namespace Go.AM
open Go Go.RowKit Go.Proofs

attribute [local irreducible] RunOps RunOpsL

theorem c_queue_New {a0 : Int} {r : queue_Queue} (h : queue_New a0 = some r) : SCall Try.prog 12 [.d (.int .i64 a0)] (stab []) 0 (.ptr 0 0 0) (stab [(0, .var [.loc 1 0 r.ring.length, .d (.int .i64 r.first), .d (.int .i64 r.n_), .d (.int .i64 r.lost)]), (1, .lst true (some 3) (List.map eapi_Item r.ring))]) 2 := by
  refine SCall.introN (bl := []) (bl' := [(0, .var [.loc 1 0 r.ring.length, .d (.int .i64 r.first), .d (.int .i64 r.n_), .d (.int .i64 r.lost)]), (1, .lst true (some 3) (List.map eapi_Item r.ring))]) ok12 (show 1 ≤ 9 by decide) rfl ?_
  refine NWp.norm (s0 := ⟨tab [(0, .d (.int .i64 a0))], stab [], 0⟩) (Norm.mk [] (by decide) (by decide) (by decide) ⟨.d _, trivial⟩ trivial) ?_
  refine NWp.opsJ ⟨tab [(0, .d (.int .i64 a0))], stab [], 0⟩ ?_ ?_
  · refine step (v := .d (.nilp)) rfl ?_
    exact RunOps.nil' (Norm.mk [] (by decide) (by decide) (by decide) ⟨.d _, trivial⟩ trivial)
  obtain ⟨l1, hl1, h⟩ := bindE h
  refine NWp.opsJ ⟨tab [(2, .ptr 0 0 0)], stab [(0, .var [.loc 1 0 l1.length, .d (.int .i64 0), .d (.int .i64 0), .d (.int .i64 0)]), (1, .lst true (some 3) (List.map eapi_Item l1))], 2⟩ ?_ ?_
  · refine step (v := .d (.int .i64 a0)) rfl ?_
    refine step (v := .d (.int .i64 (imax a0 0))) rfl ?_
    refine step (v := .d (.int .i64 (imin (imax a0 0) 64))) rfl ?_
    refine step (v := .loc 0 0 l1.length) (σ' := (upd (stab []) 0 (some (.lst true (some 3) (List.map eapi_Item l1))))) (n' := 1) (st_mk (e := eapi_Item) (z := (api_Item.mk 0 (⟨#[]⟩ : ByteArray) 0)) hl1 rfl rfl (gmk_le hl1)) ?_
    refine step (v := .agg [.loc 0 0 l1.length, .d (.int .i64 0), .d (.int .i64 0), .d (.int .i64 0)]) rfl ?_
    refine step (v := .ptr 1 0 0) (σ' := (upd (upd (stab []) 0 (some (.lst true (some 3) (List.map eapi_Item l1)))) 1 (some (.var [.loc 0 0 l1.length, .d (.int .i64 0), .d (.int .i64 0), .d (.int .i64 0)])))) (n' := 2) rfl ?_
    refine step (v := .ptr 1 0 0) rfl ?_
    exact RunOps.nil' (Norm.mk [1, 0] (by decide) (by decide) (by decide) ⟨.ptr 0 _ _ (show 0 < 2 by decide), trivial⟩ ⟨⟨show 0 < 2 by decide, _, rfl, .vars ⟨.loc 1 _ _ (show 1 < 2 by decide), .d _, .d _, .d _, trivial⟩⟩, ⟨show 1 < 2 by decide, _, rfl, .lst _ _ _⟩, trivial⟩)
  have hh := Option.some.inj h
  subst hh
  refine NWp.ret ?_
  exact ⟨.inr rfl, _, rfl, rfl, AllS.sub ⟨rfl, rfl, trivial⟩, rfl⟩

theorem c_queue_Queue_place {a0 : queue_Queue} {a1 : Int} {r : Int} (h : queue_Queue_place a0 a1 = some r) : PCall Try.prog 42 [.cptr (some 4) (equeue_Queue a0) 0, .int .i64 a1] (.int .i64 r) := by
  refine PCall.introN ok42 (show 2 ≤ 17 by decide) ?_
  refine NWp.norm (s0 := ⟨tab [(0, .d (.cptr (some 4) (equeue_Queue a0) 0)), (1, .d (.int .i64 a1))], stab [], 0⟩) (Norm.mk [] (by decide) (by decide) (by decide) ⟨.d _, .d _, trivial⟩ trivial) ?_
  refine NWp.opsJ ⟨tab [(0, .d (.cptr (some 4) (equeue_Queue a0) 0)), (1, .d (.int .i64 a1))], stab [], 0⟩ ?_ ?_
  · refine step (v := .d (.int .i64 0)) rfl ?_
    exact RunOps.nil' (Norm.mk [] (by decide) (by decide) (by decide) ⟨.d _, .d _, trivial⟩ trivial)
  obtain ⟨q1, hq1, h⟩ := bindE h
  refine NWp.opsJ ⟨tab [(4, .d (.int .i64 q1))], stab [], 0⟩ ?_ ?_
  · refine step (v := .d (.cptr (some 4) (equeue_Queue a0) 0)) rfl ?_
    refine step (v := .d (.cptr (some 4) (equeue_Queue a0) 0)) rfl ?_
    refine step (v := .d (.cptr (some 4) (equeue_Queue a0) 1)) rfl ?_
    refine step (v := .d (.int .i64 a0.first)) rfl ?_
    refine step (v := .d (.int .i64 a1)) rfl ?_
    refine step (v := .d (.int .i64 (IntKind.i64.wrap (a0.first + a1)))) rfl ?_
    refine step (v := .d (.cptr (some 4) (equeue_Queue a0) 0)) rfl ?_
    refine step (v := .d (.cptr (some 4) (equeue_Queue a0) 0)) rfl ?_
    refine step (v := .d (.cptr (some 4) (equeue_Queue a0) 0)) rfl ?_
    refine step (v := .d (eL (some 3) eapi_Item a0.ring)) rfl ?_
    refine step (v := .d (.int .i64 (a0.ring.length : Int))) (st_len (xs := a0.ring) (e := eapi_Item) rfl) ?_
    refine step (v := .d (.int .i64 q1)) (st_rem hq1 rfl rfl) ?_
    refine step (v := .d (.int .i64 q1)) rfl ?_
    exact RunOps.nil' (Norm.mk [] (by decide) (by decide) (by decide) ⟨.d _, trivial⟩ trivial)
  have hh := Option.some.inj h
  subst hh
  refine NWp.ret ?_
  show FQ _ _ _ _
  exact FQ.mk1 (.inr rfl) (res_t (v := .d (.int .i64 q1)) rfl rfl) (RV.d trivial)

theorem c_queue_Queue_Push {a0 : queue_Queue} {a1 : api_Item} {r : (Int × queue_Queue)} (h : queue_Queue_Push a0 a1 = some r) : SCall Try.prog 15 [.ptr 0 0 0, .d (eapi_Item a1)] (stab [(0, .var [.loc 1 0 a0.ring.length, .d (.int .i64 a0.first), .d (.int .i64 a0.n_), .d (.int .i64 a0.lost)]), (1, .lst true (some 3) (List.map eapi_Item a0.ring))]) 2 (.d (.int .i64 r.1)) (stab [(0, .var [.loc 1 0 r.2.ring.length, .d (.int .i64 r.2.first), .d (.int .i64 r.2.n_), .d (.int .i64 r.2.lost)]), (1, .lst true (some 3) (List.map eapi_Item r.2.ring))]) 2 := by
  refine SCall.introN (bl := [(0, .var [.loc 1 0 a0.ring.length, .d (.int .i64 a0.first), .d (.int .i64 a0.n_), .d (.int .i64 a0.lost)]), (1, .lst true (some 3) (List.map eapi_Item a0.ring))]) (bl' := [(0, .var [.loc 1 0 r.2.ring.length, .d (.int .i64 r.2.first), .d (.int .i64 r.2.n_), .d (.int .i64 r.2.lost)]), (1, .lst true (some 3) (List.map eapi_Item r.2.ring))]) ok15 (show 2 ≤ 45 by decide) rfl ?_
  refine NWp.norm (s0 := ⟨tab [(0, .ptr 0 0 0), (1, .d (eapi_Item a1))], stab [(0, .var [.loc 1 0 a0.ring.length, .d (.int .i64 a0.first), .d (.int .i64 a0.n_), .d (.int .i64 a0.lost)]), (1, .lst true (some 3) (List.map eapi_Item a0.ring))], 2⟩) (Norm.mk [0, 1] (by decide) (by decide) (by decide) ⟨.ptr 0 _ _ (show 0 < 2 by decide), .d _, trivial⟩ ⟨⟨show 0 < 2 by decide, _, rfl, .vars ⟨.loc 1 _ _ (show 1 < 2 by decide), .d _, .d _, .d _, trivial⟩⟩, ⟨show 1 < 2 by decide, _, rfl, .lst _ _ _⟩, trivial⟩) ?_
  refine NWp.opsJ ⟨tab [(0, .ptr 0 0 0), (3, .d (.cptr (some 3) (eapi_Item a1) 0))], stab [(0, .var [.loc 1 0 a0.ring.length, .d (.int .i64 a0.first), .d (.int .i64 a0.n_), .d (.int .i64 a0.lost)]), (1, .lst true (some 3) (List.map eapi_Item a0.ring))], 2⟩ ?_ ?_
  · refine step (v := .d (.cptr (some 3) (eapi_Item a1) 0)) rfl ?_
    refine step (v := .d (.int .i64 0)) rfl ?_
    exact RunOps.nil' (Norm.mk [0, 1] (by decide) (by decide) (by decide) ⟨.ptr 0 _ _ (show 0 < 2 by decide), .d _, trivial⟩ ⟨⟨show 0 < 2 by decide, _, rfl, .vars ⟨.loc 1 _ _ (show 1 < 2 by decide), .d _, .d _, .d _, trivial⟩⟩, ⟨show 1 < 2 by decide, _, rfl, .lst _ _ _⟩, trivial⟩)
  refine NWp.seq ?_
  refine NWp.block ?_
  refine NWp.opsJ ⟨tab [(0, .ptr 0 0 0), (3, .d (.cptr (some 3) (eapi_Item a1) 0)), (5, .d (.bool false))], stab [(0, .var [.loc 1 0 a0.ring.length, .d (.int .i64 a0.first), .d (.int .i64 a0.n_), .d (.int .i64 a0.lost)]), (1, .lst true (some 3) (List.map eapi_Item a0.ring))], 2⟩ ?_ ?_
  · refine step (v := .ptr 0 0 0) rfl ?_
    refine step (v := .d (.bool false)) rfl ?_
    refine step (v := .d (.bool false)) rfl ?_
    exact RunOps.nil' (Norm.mk [0, 1] (by decide) (by decide) (by decide) ⟨.ptr 0 _ _ (show 0 < 2 by decide), .d _, .d _, trivial⟩ ⟨⟨show 0 < 2 by decide, _, rfl, .vars ⟨.loc 1 _ _ (show 1 < 2 by decide), .d _, .d _, .d _, trivial⟩⟩, ⟨show 1 < 2 by decide, _, rfl, .lst _ _ _⟩, trivial⟩)
  refine NWp.condF (t := false) rfl (by decide) ?_
  refine NWp.opsJ ⟨tab [(0, .ptr 0 0 0), (3, .d (.cptr (some 3) (eapi_Item a1) 0)), (8, .d (.bool (a0.n_ == (a0.ring.length : Int))))], stab [(0, .var [.loc 1 0 a0.ring.length, .d (.int .i64 a0.first), .d (.int .i64 a0.n_), .d (.int .i64 a0.lost)]), (1, .lst true (some 3) (List.map eapi_Item a0.ring))], 2⟩ ?_ ?_
  · refine step (v := .ptr 0 0 0) rfl ?_
    refine step (v := .ptr 0 0 0) rfl ?_
    refine step (v := .ptr 0 0 2) rfl ?_
    refine step (v := .d (.int .i64 a0.n_)) rfl ?_
    refine step (v := .ptr 0 0 0) rfl ?_
    refine step (v := .ptr 0 0 0) rfl ?_
    refine step (v := .ptr 0 0 0) rfl ?_
    refine step (v := .loc 1 0 a0.ring.length) rfl ?_
    refine step (v := .d (.int .i64 (a0.ring.length : Int))) rfl ?_
    refine step (v := .d (.bool (a0.n_ == (a0.ring.length : Int)))) rfl ?_
    refine step (v := .d (.bool (a0.n_ == (a0.ring.length : Int)))) rfl ?_
    exact RunOps.nil' (Norm.mk [0, 1] (by decide) (by decide) (by decide) ⟨.ptr 0 _ _ (show 0 < 2 by decide), .d _, .d _, trivial⟩ ⟨⟨show 0 < 2 by decide, _, rfl, .vars ⟨.loc 1 _ _ (show 1 < 2 by decide), .d _, .d _, .d _, trivial⟩⟩, ⟨show 1 < 2 by decide, _, rfl, .lst _ _ _⟩, trivial⟩)
  by_cases hc1 : (a0.n_ == (a0.ring.length : Int)) = true
  · replace h := iteT hc1 h
    refine NWp.condT (t := (a0.n_ == (a0.ring.length : Int))) rfl hc1 ?_
    refine NWp.opsJ ⟨tab [], stab [(0, .var [.loc 1 0 a0.ring.length, .d (.int .i64 a0.first), .d (.int .i64 a0.n_), .d (.int .i64 (IntKind.i64.wrap (a0.lost + 1)))]), (1, .lst true (some 3) (List.map eapi_Item a0.ring))], 2⟩ ?_ ?_
    · refine step (v := .ptr 0 0 0) rfl ?_
      refine step (v := .ptr 0 0 0) rfl ?_
      refine step (v := .ptr 0 0 3) rfl ?_
      refine step (v := .d (.int .i64 a0.lost)) rfl ?_
      refine step (v := .d (.int .i64 (IntKind.i64.wrap (a0.lost + 1)))) rfl ?_
      refine step (v := .ptr 0 0 0) rfl ?_
      refine step (v := .ptr 0 0 3) rfl ?_
      refine step (v := V.undef) (σ' := (upd (stab [(0, .var [.loc 1 0 a0.ring.length, .d (.int .i64 a0.first), .d (.int .i64 a0.n_), .d (.int .i64 a0.lost)]), (1, .lst true (some 3) (List.map eapi_Item a0.ring))]) 0 (some (.var [.loc 1 0 a0.ring.length, .d (.int .i64 a0.first), .d (.int .i64 a0.n_), .d (.int .i64 (IntKind.i64.wrap (a0.lost + 1)))])))) (n' := 2) rfl ?_
      exact RunOps.nil' (Norm.mk [0, 1] (by decide) (by decide) (by decide) trivial ⟨⟨show 0 < 2 by decide, _, rfl, .vars ⟨.loc 1 _ _ (show 1 < 2 by decide), .d _, .d _, .d _, trivial⟩⟩, ⟨show 1 < 2 by decide, _, rfl, .lst _ _ _⟩, trivial⟩)
    refine NWp.opsJ ⟨tab [(4, .d (.int .i64 32))], stab [(0, .var [.loc 1 0 a0.ring.length, .d (.int .i64 a0.first), .d (.int .i64 a0.n_), .d (.int .i64 (IntKind.i64.wrap (a0.lost + 1)))]), (1, .lst true (some 3) (List.map eapi_Item a0.ring))], 2⟩ ?_ ?_
    · refine step (v := .d (.int .i64 32)) rfl ?_
      exact RunOps.nil' (Norm.mk [0, 1] (by decide) (by decide) (by decide) ⟨.d _, trivial⟩ ⟨⟨show 0 < 2 by decide, _, rfl, .vars ⟨.loc 1 _ _ (show 1 < 2 by decide), .d _, .d _, .d _, trivial⟩⟩, ⟨show 1 < 2 by decide, _, rfl, .lst _ _ _⟩, trivial⟩)
    have hh := Option.some.inj h
    subst hh
    refine NWp.ret ?_
    exact ⟨.inr rfl, _, rfl, rfl, AllS.sub ⟨rfl, rfl, trivial⟩, rfl⟩
  · replace h := iteF hc1 h
    refine NWp.condF (t := (a0.n_ == (a0.ring.length : Int))) rfl hc1 ?_
    refine NWp.skip ?_
    obtain ⟨r2, hr2, h⟩ := bindE h
    obtain ⟨x3, hx3, h⟩ := bindE h
    obtain ⟨l4, hl4, h⟩ := bindE h
    refine NWp.opsSJ ⟨tab [(0, .ptr 0 0 0)], stab [(0, .var [.loc 1 0 l4.length, .d (.int .i64 a0.first), .d (.int .i64 a0.n_), .d (.int .i64 a0.lost)]), (1, .lst true (some 3) (List.map eapi_Item l4))], 2⟩ ?_ ?_
    · refine stepL [] [] (v := .ptr 0 0 0) rfl rfl rfl ?_
      refine stepL [] [] (v := .ptr 0 0 0) rfl rfl rfl ?_
      refine stepL [] [] (v := .ptr 0 0 0) rfl rfl rfl ?_
      refine stepL [0] [] (v := .loc 1 0 a0.ring.length) rfl rfl rfl ?_
      refine stepL [] [] (v := .ptr 0 0 0) rfl rfl rfl ?_
      refine stepL [] [] (v := .ptr 0 0 0) rfl rfl rfl ?_
      refine stepL [] [] (v := .ptr 0 0 0) rfl rfl rfl ?_
      refine stepL [] [] (v := .ptr 0 0 2) rfl rfl rfl ?_
      refine stepL [0] [] (v := .d (.int .i64 a0.n_)) rfl rfl rfl ?_
      refine stepLW (σ' := (stab [(0, .var [.loc 1 0 a0.ring.length, .d (.int .i64 a0.first), .d (.int .i64 a0.n_), .d (.int .i64 a0.lost)]), (1, .lst true (some 3) (List.map eapi_Item a0.ring))])) (R := [0, 1]) (W := []) (PCall.fborrow (c_queue_Queue_place hr2) rfl [(0, .var [.loc 1 0 a0.ring.length, .d (.int .i64 a0.first), .d (.int .i64 a0.n_), .d (.int .i64 a0.lost)]), (1, .lst true (some 3) (List.map eapi_Item a0.ring))] (ViewsB.c (viewB_var rfl (ViewsB.c (viewB_all (xs := a0.ring) (e := eapi_Item) rfl rfl) (ViewsB.c (.d _) (ViewsB.c (.d _) (ViewsB.c (.d _) ViewsB.nil0))))) (ViewsB.c (.d _) ViewsB.nil0))) ⟨rfl, rfl, trivial⟩ rfl rfl rfl ?_
      refine stepL [] [] (v := .d (eapi_Item a1)) rfl rfl rfl ?_
      refine stepL [1] [] (v := .ptr 1 r2.toNat 0) (st_iaddrL (xs := a0.ring) (e := eapi_Item) hx3 rfl rfl rfl rfl) rfl rfl ?_
      refine stepL [1] [1] (v := V.undef) (σ' := (upd (stab [(0, .var [.loc 1 0 a0.ring.length, .d (.int .i64 a0.first), .d (.int .i64 a0.n_), .d (.int .i64 a0.lost)]), (1, .lst true (some 3) (List.map eapi_Item a0.ring))]) 1 (some (.lst true (some 3) (List.map eapi_Item l4))))) (n' := 2) (st_storeL' (e := eapi_Item) (v' := a1) hl4 rfl rfl rfl rfl rfl) rfl rfl ?_
      exact RunOpsL.nil' ⟨by decide, Norm.mk [0, 1] (by decide) (by decide) (by decide) ⟨.ptr 0 _ _ (show 0 < 2 by decide), trivial⟩ ⟨⟨show 0 < 2 by decide, _, rfl, .vars ⟨.le (id := 1) (gput_len hl4).symm (show 1 < 2 by decide), .d _, .d _, .d _, trivial⟩⟩, ⟨show 1 < 2 by decide, _, rfl, .lst _ _ _⟩, trivial⟩⟩
    refine NWp.opsJ ⟨tab [], stab [(0, .var [.loc 1 0 l4.length, .d (.int .i64 a0.first), .d (.int .i64 (IntKind.i64.wrap (a0.n_ + 1))), .d (.int .i64 a0.lost)]), (1, .lst true (some 3) (List.map eapi_Item l4))], 2⟩ ?_ ?_
    · refine step (v := .ptr 0 0 0) rfl ?_
      refine step (v := .ptr 0 0 0) rfl ?_
      refine step (v := .ptr 0 0 2) rfl ?_
      refine step (v := .d (.int .i64 a0.n_)) rfl ?_
      refine step (v := .d (.int .i64 (IntKind.i64.wrap (a0.n_ + 1)))) rfl ?_
      refine step (v := .ptr 0 0 0) rfl ?_
      refine step (v := .ptr 0 0 2) rfl ?_
      refine step (v := V.undef) (σ' := (upd (stab [(0, .var [.loc 1 0 l4.length, .d (.int .i64 a0.first), .d (.int .i64 a0.n_), .d (.int .i64 a0.lost)]), (1, .lst true (some 3) (List.map eapi_Item l4))]) 0 (some (.var [.loc 1 0 l4.length, .d (.int .i64 a0.first), .d (.int .i64 (IntKind.i64.wrap (a0.n_ + 1))), .d (.int .i64 a0.lost)])))) (n' := 2) rfl ?_
      exact RunOps.nil' (Norm.mk [0, 1] (by decide) (by decide) (by decide) trivial ⟨⟨show 0 < 2 by decide, _, rfl, .vars ⟨.loc 1 _ _ (show 1 < 2 by decide), .d _, .d _, .d _, trivial⟩⟩, ⟨show 1 < 2 by decide, _, rfl, .lst _ _ _⟩, trivial⟩)
    refine NWp.opsJ ⟨tab [(4, .d (.int .i64 0))], stab [(0, .var [.loc 1 0 l4.length, .d (.int .i64 a0.first), .d (.int .i64 (IntKind.i64.wrap (a0.n_ + 1))), .d (.int .i64 a0.lost)]), (1, .lst true (some 3) (List.map eapi_Item l4))], 2⟩ ?_ ?_
    · refine step (v := .d (.int .i64 0)) rfl ?_
      exact RunOps.nil' (Norm.mk [0, 1] (by decide) (by decide) (by decide) ⟨.d _, trivial⟩ ⟨⟨show 0 < 2 by decide, _, rfl, .vars ⟨.loc 1 _ _ (show 1 < 2 by decide), .d _, .d _, .d _, trivial⟩⟩, ⟨show 1 < 2 by decide, _, rfl, .lst _ _ _⟩, trivial⟩)
    have hh := Option.some.inj h
    subst hh
    refine NWp.ret ?_
    exact ⟨.inr rfl, _, rfl, rfl, AllS.sub ⟨rfl, rfl, trivial⟩, rfl⟩

theorem c_queue_Queue_At {a0 : queue_Queue} {a1 : Int} {r : (api_Item × Bool)} (h : queue_Queue_At a0 a1 = some r) : PCall Try.prog 20 [.cptr (some 4) (equeue_Queue a0) 0, .int .i64 a1] (.tup [eapi_Item r.1, .bool r.2]) := by
  refine PCall.introN ok20 (show 2 ≤ 30 by decide) ?_
  refine NWp.norm (s0 := ⟨tab [(0, .d (.cptr (some 4) (equeue_Queue a0) 0)), (1, .d (.int .i64 a1))], stab [], 0⟩) (Norm.mk [] (by decide) (by decide) (by decide) ⟨.d _, .d _, trivial⟩ trivial) ?_
  refine NWp.opsJ ⟨tab [(0, .d (.cptr (some 4) (equeue_Queue a0) 0)), (1, .d (.int .i64 a1)), (4, .ptr 0 0 0)], stab [(0, .var [.d (.int .u16 0), .d (.str (⟨#[]⟩ : ByteArray)), .d (.int .i64 0)])], 1⟩ ?_ ?_
  · refine step (v := .ptr 0 0 0) (σ' := (upd (stab []) 0 (some (.var [.d (.int .u16 0), .d (.str (⟨#[]⟩ : ByteArray)), .d (.int .i64 0)])))) (n' := 1) rfl ?_
    refine step (v := .d (.bool false)) rfl ?_
    exact RunOps.nil' (Norm.mk [0] (by decide) (by decide) (by decide) ⟨.d _, .d _, .ptr 0 _ _ (show 0 < 1 by decide), trivial⟩ ⟨⟨show 0 < 1 by decide, _, rfl, .vars ⟨.d _, .d _, .d _, trivial⟩⟩, trivial⟩)
  refine NWp.seq ?_
  refine NWp.opsJ ⟨tab [(0, .d (.cptr (some 4) (equeue_Queue a0) 0)), (1, .d (.int .i64 a1)), (4, .ptr 0 0 0), (19, .d (.bool ((decide (a1 < 0)) || (decide (a1 ≥ a0.n_)))))], stab [(0, .var [.d (.int .u16 0), .d (.str (⟨#[]⟩ : ByteArray)), .d (.int .i64 0)])], 1⟩ ?_ ?_
  · refine step (v := .d (.cptr (some 4) (equeue_Queue a0) 0)) rfl ?_
    refine step (v := .d (.bool false)) rfl ?_
    refine step (v := .d (.bool false)) rfl ?_
    refine stepG (c := false) rfl rfl ?_
    refine step (v := .d (.int .i64 a1)) rfl ?_
    refine stepG (c := false) rfl rfl ?_
    refine step (v := .d (.bool (decide (a1 < 0)))) rfl ?_
    refine step (v := .d (.bool (decide (a1 < 0)))) (st_pickF (b := false) rfl (by decide) rfl) ?_
    refine step (v := .d (.bool (decide (a1 < 0)))) rfl ?_
    by_cases hg1 : decide (a1 < 0) = true
    · refine stepX (c := decide (a1 < 0)) rfl (by rw [hg1]; decide) ?_
      refine stepX (c := decide (a1 < 0)) rfl (by rw [hg1]; decide) ?_
      refine stepX (c := decide (a1 < 0)) rfl (by rw [hg1]; decide) ?_
      refine stepX (c := decide (a1 < 0)) rfl (by rw [hg1]; decide) ?_
      refine stepX (c := decide (a1 < 0)) rfl (by rw [hg1]; decide) ?_
      refine stepX (c := decide (a1 < 0)) rfl (by rw [hg1]; decide) ?_
      refine step (v := .d (.bool true)) (st_pickT (b := decide (a1 < 0)) rfl hg1 rfl) ?_
      exact RunOps.nil' (Norm.mk [0] (by decide) (by decide) (by decide) ⟨.d _, .d _, .ptr 0 _ _ (show 0 < 1 by decide), .eq (by simp [hg1]), trivial⟩ ⟨⟨show 0 < 1 by decide, _, rfl, .vars ⟨.d _, .d _, .d _, trivial⟩⟩, trivial⟩)
    · refine stepG (c := decide (a1 < 0)) rfl (Bool.eq_false_iff.2 hg1) ?_
      refine step (v := .d (.int .i64 a1)) rfl ?_
      refine stepG (c := decide (a1 < 0)) rfl (Bool.eq_false_iff.2 hg1) ?_
      refine step (v := .d (.cptr (some 4) (equeue_Queue a0) 0)) rfl ?_
      refine stepG (c := decide (a1 < 0)) rfl (Bool.eq_false_iff.2 hg1) ?_
      refine step (v := .d (.cptr (some 4) (equeue_Queue a0) 0)) rfl ?_
      refine stepG (c := decide (a1 < 0)) rfl (Bool.eq_false_iff.2 hg1) ?_
      refine step (v := .d (.cptr (some 4) (equeue_Queue a0) 2)) rfl ?_
      refine stepG (c := decide (a1 < 0)) rfl (Bool.eq_false_iff.2 hg1) ?_
      refine step (v := .d (.int .i64 a0.n_)) rfl ?_
      refine stepG (c := decide (a1 < 0)) rfl (Bool.eq_false_iff.2 hg1) ?_
      refine step (v := .d (.bool (decide (a1 ≥ a0.n_)))) rfl ?_
      refine step (v := .d (.bool (decide (a1 ≥ a0.n_)))) (st_pickF (b := decide (a1 < 0)) rfl hg1 rfl) ?_
      exact RunOps.nil' (Norm.mk [0] (by decide) (by decide) (by decide) ⟨.d _, .d _, .ptr 0 _ _ (show 0 < 1 by decide), .eq (by simp [hg1]), trivial⟩ ⟨⟨show 0 < 1 by decide, _, rfl, .vars ⟨.d _, .d _, .d _, trivial⟩⟩, trivial⟩)
  by_cases hc2 : ((decide (a1 < 0)) || (decide (a1 ≥ a0.n_))) = true
  · replace h := iteT hc2 h
    refine NWp.condT (t := ((decide (a1 < 0)) || (decide (a1 ≥ a0.n_)))) rfl hc2 ?_
    refine NWp.opsJ ⟨tab [(4, .ptr 0 0 0), (5, .d (.bool false))], stab [(0, .var [.d (.int .u16 0), .d (.str (⟨#[]⟩ : ByteArray)), .d (.int .i64 0)])], 1⟩ ?_ ?_
    · refine step (v := .d (eapi_Item (api_Item.mk 0 (⟨#[]⟩ : ByteArray) 0))) (st_build (ds := [.int .u16 0, .str (⟨#[]⟩ : ByteArray), .int .i64 0]) rfl) ?_
      refine step (v := V.undef) (σ' := (upd (stab [(0, .var [.d (.int .u16 0), .d (.str (⟨#[]⟩ : ByteArray)), .d (.int .i64 0)])]) 0 (some (.var [.d (.int .u16 0), .d (.str (⟨#[]⟩ : ByteArray)), .d (.int .i64 0)])))) (n' := 1) rfl ?_
      refine step (v := .d (.bool false)) rfl ?_
      exact RunOps.nil' (Norm.mk [0] (by decide) (by decide) (by decide) ⟨.ptr 0 _ _ (show 0 < 1 by decide), .d _, trivial⟩ ⟨⟨show 0 < 1 by decide, _, rfl, .vars ⟨.d _, .d _, .d _, trivial⟩⟩, trivial⟩)
    have hh := Option.some.inj h
    subst hh
    refine NWp.ret ?_
    show FQ _ _ _ _
    exact FQ.mkT (.inr rfl) (res_cell (ds := [.int .u16 0, .str (⟨#[]⟩ : ByteArray), .int .i64 0]) rfl rfl (show 3 ≤ 3 by decide) rfl (res_t (v := .d (.bool false)) rfl rfl)) (RV.d (RV.d trivial))
  · replace h := iteF hc2 h
    refine NWp.condF (t := ((decide (a1 < 0)) || (decide (a1 ≥ a0.n_)))) rfl hc2 ?_
    refine NWp.skip ?_
    obtain ⟨r3, hr3, h⟩ := bindE h
    obtain ⟨x4, hx4, h⟩ := bindE h
    refine NWp.opsJ ⟨tab [(4, .ptr 0 0 0), (5, .d (.bool true))], stab [(0, .var [.d (.int .u16 x4.Pt), .d (.str x4.Raw), .d (.int .i64 x4.N)])], 1⟩ ?_ ?_
    · refine step (v := .d (.cptr (some 4) (equeue_Queue a0) 0)) rfl ?_
      refine step (v := .d (.cptr (some 4) (equeue_Queue a0) 0)) rfl ?_
      refine step (v := .d (.cptr (some 4) (equeue_Queue a0) 0)) rfl ?_
      refine step (v := .d (eL (some 3) eapi_Item a0.ring)) rfl ?_
      refine step (v := .d (.cptr (some 4) (equeue_Queue a0) 0)) rfl ?_
      refine step (v := .d (.int .i64 a1)) rfl ?_
      refine stepC (r := .int .i64 r3) (ArgsOk.dt (ArgsOk.dt ArgsOk.nil')) (c_queue_Queue_place hr3) ?_
      refine step (v := .d (.cptr (some 3) (eapi_Item x4) 0)) (st_iaddr (xs := a0.ring) (e := eapi_Item) hx4 rfl rfl) ?_
      refine step (v := .d (eapi_Item x4)) rfl ?_
      refine step (v := V.undef) (σ' := (upd (stab [(0, .var [.d (.int .u16 0), .d (.str (⟨#[]⟩ : ByteArray)), .d (.int .i64 0)])]) 0 (some (.var [.d (.int .u16 x4.Pt), .d (.str x4.Raw), .d (.int .i64 x4.N)])))) (n' := 1) rfl ?_
      refine step (v := .d (.bool true)) rfl ?_
      exact RunOps.nil' (Norm.mk [0] (by decide) (by decide) (by decide) ⟨.ptr 0 _ _ (show 0 < 1 by decide), .d _, trivial⟩ ⟨⟨show 0 < 1 by decide, _, rfl, .vars ⟨.d _, .d _, .d _, trivial⟩⟩, trivial⟩)
    have hh := Option.some.inj h
    subst hh
    refine NWp.ret ?_
    show FQ _ _ _ _
    exact FQ.mkT (.inr rfl) (res_cell (ds := [.int .u16 x4.Pt, .str x4.Raw, .int .i64 x4.N]) rfl rfl (show 3 ≤ 3 by decide) rfl (res_t (v := .d (.bool true)) rfl rfl)) (RV.d (RV.d trivial))

theorem c_queue_Queue_Pop {a0 : queue_Queue} {r : (api_Item × Bool × queue_Queue)} (h : queue_Queue_Pop a0 = some r) : SCall Try.prog 17 [.ptr 0 0 0] (stab [(0, .var [.loc 1 0 a0.ring.length, .d (.int .i64 a0.first), .d (.int .i64 a0.n_), .d (.int .i64 a0.lost)]), (1, .lst true (some 3) (List.map eapi_Item a0.ring))]) 2 (.d (.tup [eapi_Item r.1, .bool r.2.1])) (stab [(0, .var [.loc 1 0 r.2.2.ring.length, .d (.int .i64 r.2.2.first), .d (.int .i64 r.2.2.n_), .d (.int .i64 r.2.2.lost)]), (1, .lst true (some 3) (List.map eapi_Item r.2.2.ring))]) 3 := by
  refine SCall.introN (bl := [(0, .var [.loc 1 0 a0.ring.length, .d (.int .i64 a0.first), .d (.int .i64 a0.n_), .d (.int .i64 a0.lost)]), (1, .lst true (some 3) (List.map eapi_Item a0.ring))]) (bl' := [(0, .var [.loc 1 0 r.2.2.ring.length, .d (.int .i64 r.2.2.first), .d (.int .i64 r.2.2.n_), .d (.int .i64 r.2.2.lost)]), (1, .lst true (some 3) (List.map eapi_Item r.2.2.ring))]) ok17 (show 1 ≤ 36 by decide) rfl ?_
  refine NWp.norm (s0 := ⟨tab [(0, .ptr 0 0 0)], stab [(0, .var [.loc 1 0 a0.ring.length, .d (.int .i64 a0.first), .d (.int .i64 a0.n_), .d (.int .i64 a0.lost)]), (1, .lst true (some 3) (List.map eapi_Item a0.ring))], 2⟩) (Norm.mk [0, 1] (by decide) (by decide) (by decide) ⟨.ptr 0 _ _ (show 0 < 2 by decide), trivial⟩ ⟨⟨show 0 < 2 by decide, _, rfl, .vars ⟨.loc 1 _ _ (show 1 < 2 by decide), .d _, .d _, .d _, trivial⟩⟩, ⟨show 1 < 2 by decide, _, rfl, .lst _ _ _⟩, trivial⟩) ?_
  refine NWp.opsJ ⟨tab [(0, .ptr 0 0 0), (2, .ptr 2 0 0)], stab [(0, .var [.loc 1 0 a0.ring.length, .d (.int .i64 a0.first), .d (.int .i64 a0.n_), .d (.int .i64 a0.lost)]), (1, .lst true (some 3) (List.map eapi_Item a0.ring)), (2, .var [.d (.int .u16 0), .d (.str (⟨#[]⟩ : ByteArray)), .d (.int .i64 0)])], 3⟩ ?_ ?_
  · refine step (v := .ptr 2 0 0) (σ' := (upd (stab [(0, .var [.loc 1 0 a0.ring.length, .d (.int .i64 a0.first), .d (.int .i64 a0.n_), .d (.int .i64 a0.lost)]), (1, .lst true (some 3) (List.map eapi_Item a0.ring))]) 2 (some (.var [.d (.int .u16 0), .d (.str (⟨#[]⟩ : ByteArray)), .d (.int .i64 0)])))) (n' := 3) rfl ?_
    refine step (v := .d (.bool false)) rfl ?_
    exact RunOps.nil' (Norm.mk [0, 1, 2] (by decide) (by decide) (by decide) ⟨.ptr 0 _ _ (show 0 < 3 by decide), .ptr 2 _ _ (show 2 < 3 by decide), trivial⟩ ⟨⟨show 0 < 3 by decide, _, rfl, .vars ⟨.loc 1 _ _ (show 1 < 3 by decide), .d _, .d _, .d _, trivial⟩⟩, ⟨show 1 < 3 by decide, _, rfl, .lst _ _ _⟩, ⟨show 2 < 3 by decide, _, rfl, .vars ⟨.d _, .d _, .d _, trivial⟩⟩, trivial⟩)
  obtain ⟨r1, hr1, h⟩ := bindE h
  refine NWp.opsJ ⟨tab [(0, .ptr 0 0 0), (2, .ptr 2 0 0), (4, .ptr 3 0 0), (5, .d (.bool r1.2))], stab [(0, .var [.loc 1 0 a0.ring.length, .d (.int .i64 a0.first), .d (.int .i64 a0.n_), .d (.int .i64 a0.lost)]), (1, .lst true (some 3) (List.map eapi_Item a0.ring)), (2, .var [.d (.int .u16 0), .d (.str (⟨#[]⟩ : ByteArray)), .d (.int .i64 0)]), (3, .var [.d (.int .u16 r1.1.Pt), .d (.str r1.1.Raw), .d (.int .i64 r1.1.N)])], 4⟩ ?_ ?_
  · refine step (v := .ptr 0 0 0) rfl ?_
    refine stepW (v := .d (.tup [eapi_Item r1.1, .bool r1.2])) (σ' := _) (n' := _) (PCall.borrow (c_queue_Queue_At hr1) rfl (ViewsB.c (viewB_var rfl (ViewsB.c (viewB_all (xs := a0.ring) (e := eapi_Item) rfl rfl) (ViewsB.c (.d _) (ViewsB.c (.d _) (ViewsB.c (.d _) ViewsB.nil0))))) (ViewsB.c (.d _) ViewsB.nil0))) (Nat.le_refl _) ?_
    refine step (v := .d (.tup [eapi_Item r1.1, .bool r1.2])) rfl ?_
    refine step (v := .d (eapi_Item r1.1)) rfl ?_
    refine step (v := .d (.bool r1.2)) rfl ?_
    refine step (v := .ptr 3 0 0) (σ' := (upd (stab [(0, .var [.loc 1 0 a0.ring.length, .d (.int .i64 a0.first), .d (.int .i64 a0.n_), .d (.int .i64 a0.lost)]), (1, .lst true (some 3) (List.map eapi_Item a0.ring)), (2, .var [.d (.int .u16 0), .d (.str (⟨#[]⟩ : ByteArray)), .d (.int .i64 0)])]) 3 (some (.var [.d (.int .u16 0), .d (.str (⟨#[]⟩ : ByteArray)), .d (.int .i64 0)])))) (n' := 4) rfl ?_
    refine step (v := V.undef) (σ' := (upd (upd (stab [(0, .var [.loc 1 0 a0.ring.length, .d (.int .i64 a0.first), .d (.int .i64 a0.n_), .d (.int .i64 a0.lost)]), (1, .lst true (some 3) (List.map eapi_Item a0.ring)), (2, .var [.d (.int .u16 0), .d (.str (⟨#[]⟩ : ByteArray)), .d (.int .i64 0)])]) 3 (some (.var [.d (.int .u16 0), .d (.str (⟨#[]⟩ : ByteArray)), .d (.int .i64 0)]))) 3 (some (.var [.d (.int .u16 r1.1.Pt), .d (.str r1.1.Raw), .d (.int .i64 r1.1.N)])))) (n' := 4) rfl ?_
    refine step (v := .d (.bool r1.2)) rfl ?_
    exact RunOps.nil' (Norm.mk [0, 1, 2, 3] (by decide) (by decide) (by decide) ⟨.ptr 0 _ _ (show 0 < 4 by decide), .ptr 2 _ _ (show 2 < 4 by decide), .ptr 3 _ _ (show 3 < 4 by decide), .d _, trivial⟩ ⟨⟨show 0 < 4 by decide, _, rfl, .vars ⟨.loc 1 _ _ (show 1 < 4 by decide), .d _, .d _, .d _, trivial⟩⟩, ⟨show 1 < 4 by decide, _, rfl, .lst _ _ _⟩, ⟨show 2 < 4 by decide, _, rfl, .vars ⟨.d _, .d _, .d _, trivial⟩⟩, ⟨show 3 < 4 by decide, _, rfl, .vars ⟨.d _, .d _, .d _, trivial⟩⟩, trivial⟩)
  obtain ⟨q9, hv, h⟩ := bindE h
  obtain ⟨l6, y7, y8⟩ := q9
  refine NWp.seqN ⟨tab [(2, .ptr 2 0 0), (4, .ptr 3 0 0), (5, .d (.bool r1.2))], stab [(0, .var [.loc 1 0 l6.length, .d (.int .i64 y7), .d (.int .i64 y8), .d (.int .i64 a0.lost)]), (1, .lst true (some 3) (List.map eapi_Item l6)), (2, .var [.d (.int .u16 0), .d (.str (⟨#[]⟩ : ByteArray)), .d (.int .i64 0)]), (3, .var [.d (.int .u16 r1.1.Pt), .d (.str r1.1.Raw), .d (.int .i64 r1.1.N)])], 4⟩ ?_ ?_
  · replace h := hv
    refine NWp.opsJ ⟨tab [(0, .ptr 0 0 0), (2, .ptr 2 0 0), (4, .ptr 3 0 0), (5, .d (.bool r1.2)), (11, .d (.bool r1.2))], stab [(0, .var [.loc 1 0 a0.ring.length, .d (.int .i64 a0.first), .d (.int .i64 a0.n_), .d (.int .i64 a0.lost)]), (1, .lst true (some 3) (List.map eapi_Item a0.ring)), (2, .var [.d (.int .u16 0), .d (.str (⟨#[]⟩ : ByteArray)), .d (.int .i64 0)]), (3, .var [.d (.int .u16 r1.1.Pt), .d (.str r1.1.Raw), .d (.int .i64 r1.1.N)])], 4⟩ ?_ ?_
    · refine step (v := .d (.bool r1.2)) rfl ?_
      exact RunOps.nil' (Norm.mk [0, 1, 2, 3] (by decide) (by decide) (by decide) ⟨.ptr 0 _ _ (show 0 < 4 by decide), .ptr 2 _ _ (show 2 < 4 by decide), .ptr 3 _ _ (show 3 < 4 by decide), .d _, .d _, trivial⟩ ⟨⟨show 0 < 4 by decide, _, rfl, .vars ⟨.loc 1 _ _ (show 1 < 4 by decide), .d _, .d _, .d _, trivial⟩⟩, ⟨show 1 < 4 by decide, _, rfl, .lst _ _ _⟩, ⟨show 2 < 4 by decide, _, rfl, .vars ⟨.d _, .d _, .d _, trivial⟩⟩, ⟨show 3 < 4 by decide, _, rfl, .vars ⟨.d _, .d _, .d _, trivial⟩⟩, trivial⟩)
    by_cases hc2 : r1.2 = true
    · replace h := iteT hc2 h
      refine NWp.condT (t := r1.2) rfl hc2 ?_
      obtain ⟨x3, hx3, h⟩ := bindE h
      obtain ⟨l4, hl4, h⟩ := bindE h
      refine NWp.opsJ ⟨tab [(0, .ptr 0 0 0), (2, .ptr 2 0 0), (4, .ptr 3 0 0), (5, .d (.bool r1.2))], stab [(0, .var [.loc 1 0 l4.length, .d (.int .i64 a0.first), .d (.int .i64 a0.n_), .d (.int .i64 a0.lost)]), (1, .lst true (some 3) (List.map eapi_Item l4)), (2, .var [.d (.int .u16 0), .d (.str (⟨#[]⟩ : ByteArray)), .d (.int .i64 0)]), (3, .var [.d (.int .u16 r1.1.Pt), .d (.str r1.1.Raw), .d (.int .i64 r1.1.N)])], 4⟩ ?_ ?_
      · refine step (v := .ptr 0 0 0) rfl ?_
        refine step (v := .ptr 0 0 0) rfl ?_
        refine step (v := .ptr 0 0 0) rfl ?_
        refine step (v := .loc 1 0 a0.ring.length) rfl ?_
        refine step (v := .ptr 0 0 0) rfl ?_
        refine step (v := .ptr 0 0 0) rfl ?_
        refine step (v := .ptr 0 0 1) rfl ?_
        refine step (v := .d (.int .i64 a0.first)) rfl ?_
        refine step (v := .d (eapi_Item (api_Item.mk 0 (⟨#[]⟩ : ByteArray) 0))) (st_build (ds := [.int .u16 0, .str (⟨#[]⟩ : ByteArray), .int .i64 0]) rfl) ?_
        refine step (v := .ptr 1 a0.first.toNat 0) (st_iaddrL (xs := a0.ring) (e := eapi_Item) hx3 rfl rfl rfl rfl) ?_
        refine step (v := V.undef) (σ' := (upd (stab [(0, .var [.loc 1 0 a0.ring.length, .d (.int .i64 a0.first), .d (.int .i64 a0.n_), .d (.int .i64 a0.lost)]), (1, .lst true (some 3) (List.map eapi_Item a0.ring)), (2, .var [.d (.int .u16 0), .d (.str (⟨#[]⟩ : ByteArray)), .d (.int .i64 0)]), (3, .var [.d (.int .u16 r1.1.Pt), .d (.str r1.1.Raw), .d (.int .i64 r1.1.N)])]) 1 (some (.lst true (some 3) (List.map eapi_Item l4))))) (n' := 4) (st_storeL' (e := eapi_Item) (v' := (api_Item.mk 0 (⟨#[]⟩ : ByteArray) 0)) hl4 rfl rfl rfl rfl rfl) ?_
        exact RunOps.nil' (Norm.mk [0, 1, 2, 3] (by decide) (by decide) (by decide) ⟨.ptr 0 _ _ (show 0 < 4 by decide), .ptr 2 _ _ (show 2 < 4 by decide), .ptr 3 _ _ (show 3 < 4 by decide), .d _, trivial⟩ ⟨⟨show 0 < 4 by decide, _, rfl, .vars ⟨.le (id := 1) (gput_len hl4).symm (show 1 < 4 by decide), .d _, .d _, .d _, trivial⟩⟩, ⟨show 1 < 4 by decide, _, rfl, .lst _ _ _⟩, ⟨show 2 < 4 by decide, _, rfl, .vars ⟨.d _, .d _, .d _, trivial⟩⟩, ⟨show 3 < 4 by decide, _, rfl, .vars ⟨.d _, .d _, .d _, trivial⟩⟩, trivial⟩)
      obtain ⟨r5, hr5, h⟩ := bindE h
      refine NWp.opsJ ⟨tab [(0, .ptr 0 0 0), (2, .ptr 2 0 0), (4, .ptr 3 0 0), (5, .d (.bool r1.2))], stab [(0, .var [.loc 1 0 l4.length, .d (.int .i64 r5), .d (.int .i64 a0.n_), .d (.int .i64 a0.lost)]), (1, .lst true (some 3) (List.map eapi_Item l4)), (2, .var [.d (.int .u16 0), .d (.str (⟨#[]⟩ : ByteArray)), .d (.int .i64 0)]), (3, .var [.d (.int .u16 r1.1.Pt), .d (.str r1.1.Raw), .d (.int .i64 r1.1.N)])], 4⟩ ?_ ?_
      · refine step (v := .ptr 0 0 0) rfl ?_
        refine step (v := .ptr 0 0 0) rfl ?_
        refine stepW (v := .d (.int .i64 r5)) (σ' := _) (n' := _) (PCall.borrow (c_queue_Queue_place hr5) rfl (ViewsB.c (viewB_var rfl (ViewsB.c (viewB_all (xs := l4) (e := eapi_Item) rfl rfl) (ViewsB.c (.d _) (ViewsB.c (.d _) (ViewsB.c (.d _) ViewsB.nil0))))) (ViewsB.c (.d _) ViewsB.nil0))) (Nat.le_refl _) ?_
        refine step (v := .ptr 0 0 0) rfl ?_
        refine step (v := .ptr 0 0 1) rfl ?_
        refine step (v := V.undef) (σ' := (upd (stab [(0, .var [.loc 1 0 l4.length, .d (.int .i64 a0.first), .d (.int .i64 a0.n_), .d (.int .i64 a0.lost)]), (1, .lst true (some 3) (List.map eapi_Item l4)), (2, .var [.d (.int .u16 0), .d (.str (⟨#[]⟩ : ByteArray)), .d (.int .i64 0)]), (3, .var [.d (.int .u16 r1.1.Pt), .d (.str r1.1.Raw), .d (.int .i64 r1.1.N)])]) 0 (some (.var [.loc 1 0 l4.length, .d (.int .i64 r5), .d (.int .i64 a0.n_), .d (.int .i64 a0.lost)])))) (n' := 4) rfl ?_
        exact RunOps.nil' (Norm.mk [0, 1, 2, 3] (by decide) (by decide) (by decide) ⟨.ptr 0 _ _ (show 0 < 4 by decide), .ptr 2 _ _ (show 2 < 4 by decide), .ptr 3 _ _ (show 3 < 4 by decide), .d _, trivial⟩ ⟨⟨show 0 < 4 by decide, _, rfl, .vars ⟨.loc 1 _ _ (show 1 < 4 by decide), .d _, .d _, .d _, trivial⟩⟩, ⟨show 1 < 4 by decide, _, rfl, .lst _ _ _⟩, ⟨show 2 < 4 by decide, _, rfl, .vars ⟨.d _, .d _, .d _, trivial⟩⟩, ⟨show 3 < 4 by decide, _, rfl, .vars ⟨.d _, .d _, .d _, trivial⟩⟩, trivial⟩)
      have hh := Option.some.inj h
      obtain ⟨he0, ht0⟩ := Prod.mk.inj hh
      obtain ⟨he1, ht1⟩ := Prod.mk.inj ht0
      subst he0
      subst he1
      subst ht1
      refine NWp.opsE ⟨tab [(2, .ptr 2 0 0), (4, .ptr 3 0 0), (5, .d (.bool r1.2))], stab [(0, .var [.loc 1 0 l4.length, .d (.int .i64 r5), .d (.int .i64 (IntKind.i64.wrap (a0.n_ - 1))), .d (.int .i64 a0.lost)]), (1, .lst true (some 3) (List.map eapi_Item l4)), (2, .var [.d (.int .u16 0), .d (.str (⟨#[]⟩ : ByteArray)), .d (.int .i64 0)]), (3, .var [.d (.int .u16 r1.1.Pt), .d (.str r1.1.Raw), .d (.int .i64 r1.1.N)])], 4⟩ ?_ ?_
      · refine step (v := .ptr 0 0 0) rfl ?_
        refine step (v := .ptr 0 0 0) rfl ?_
        refine step (v := .ptr 0 0 2) rfl ?_
        refine step (v := .d (.int .i64 a0.n_)) rfl ?_
        refine step (v := .d (.int .i64 (IntKind.i64.wrap (a0.n_ - 1)))) rfl ?_
        refine step (v := .ptr 0 0 0) rfl ?_
        refine step (v := .ptr 0 0 2) rfl ?_
        refine step (v := V.undef) (σ' := (upd (stab [(0, .var [.loc 1 0 l4.length, .d (.int .i64 r5), .d (.int .i64 a0.n_), .d (.int .i64 a0.lost)]), (1, .lst true (some 3) (List.map eapi_Item l4)), (2, .var [.d (.int .u16 0), .d (.str (⟨#[]⟩ : ByteArray)), .d (.int .i64 0)]), (3, .var [.d (.int .u16 r1.1.Pt), .d (.str r1.1.Raw), .d (.int .i64 r1.1.N)])]) 0 (some (.var [.loc 1 0 l4.length, .d (.int .i64 r5), .d (.int .i64 (IntKind.i64.wrap (a0.n_ - 1))), .d (.int .i64 a0.lost)])))) (n' := 4) rfl ?_
        exact RunOps.nil' (Norm.mk [0, 1, 2, 3] (by decide) (by decide) (by decide) ⟨.ptr 2 _ _ (show 2 < 4 by decide), .ptr 3 _ _ (show 3 < 4 by decide), .d _, trivial⟩ ⟨⟨show 0 < 4 by decide, _, rfl, .vars ⟨.loc 1 _ _ (show 1 < 4 by decide), .d _, .d _, .d _, trivial⟩⟩, ⟨show 1 < 4 by decide, _, rfl, .lst _ _ _⟩, ⟨show 2 < 4 by decide, _, rfl, .vars ⟨.d _, .d _, .d _, trivial⟩⟩, ⟨show 3 < 4 by decide, _, rfl, .vars ⟨.d _, .d _, .d _, trivial⟩⟩, trivial⟩)
      exact And.intro rfl rfl
    · replace h := iteF hc2 h
      refine NWp.condF (t := r1.2) rfl hc2 ?_
      have hh := Option.some.inj h
      obtain ⟨he0, ht0⟩ := Prod.mk.inj hh
      obtain ⟨he1, ht1⟩ := Prod.mk.inj ht0
      subst he0
      subst he1
      subst ht1
      refine NWp.norm (s0 := ⟨tab [(2, .ptr 2 0 0), (4, .ptr 3 0 0), (5, .d (.bool r1.2))], stab [(0, .var [.loc 1 0 a0.ring.length, .d (.int .i64 a0.first), .d (.int .i64 a0.n_), .d (.int .i64 a0.lost)]), (1, .lst true (some 3) (List.map eapi_Item a0.ring)), (2, .var [.d (.int .u16 0), .d (.str (⟨#[]⟩ : ByteArray)), .d (.int .i64 0)]), (3, .var [.d (.int .u16 r1.1.Pt), .d (.str r1.1.Raw), .d (.int .i64 r1.1.N)])], 4⟩) (Norm.mk [0, 1, 2, 3] (by decide) (by decide) (by decide) ⟨.ptr 2 _ _ (show 2 < 4 by decide), .ptr 3 _ _ (show 3 < 4 by decide), .d _, trivial⟩ ⟨⟨show 0 < 4 by decide, _, rfl, .vars ⟨.loc 1 _ _ (show 1 < 4 by decide), .d _, .d _, .d _, trivial⟩⟩, ⟨show 1 < 4 by decide, _, rfl, .lst _ _ _⟩, ⟨show 2 < 4 by decide, _, rfl, .vars ⟨.d _, .d _, .d _, trivial⟩⟩, ⟨show 3 < 4 by decide, _, rfl, .vars ⟨.d _, .d _, .d _, trivial⟩⟩, trivial⟩) ?_
      refine NWp.skip ?_
      exact And.intro rfl rfl
  refine NWp.opsJ ⟨tab [(2, .ptr 2 0 0), (3, .d (.bool r1.2))], stab [(0, .var [.loc 1 0 l6.length, .d (.int .i64 y7), .d (.int .i64 y8), .d (.int .i64 a0.lost)]), (1, .lst true (some 3) (List.map eapi_Item l6)), (2, .var [.d (.int .u16 r1.1.Pt), .d (.str r1.1.Raw), .d (.int .i64 r1.1.N)])], 3⟩ ?_ ?_
  · refine step (v := .d (eapi_Item r1.1)) (st_ldV (ds := [.int .u16 r1.1.Pt, .str r1.1.Raw, .int .i64 r1.1.N]) rfl rfl (show 3 ≤ 3 by decide) rfl) ?_
    refine step (v := .d (.bool r1.2)) rfl ?_
    refine step (v := V.undef) (σ' := (upd (stab [(0, .var [.loc 1 0 l6.length, .d (.int .i64 y7), .d (.int .i64 y8), .d (.int .i64 a0.lost)]), (1, .lst true (some 3) (List.map eapi_Item l6)), (2, .var [.d (.int .u16 0), .d (.str (⟨#[]⟩ : ByteArray)), .d (.int .i64 0)]), (3, .var [.d (.int .u16 r1.1.Pt), .d (.str r1.1.Raw), .d (.int .i64 r1.1.N)])]) 2 (some (.var [.d (.int .u16 r1.1.Pt), .d (.str r1.1.Raw), .d (.int .i64 r1.1.N)])))) (n' := 4) rfl ?_
    refine step (v := .d (.bool r1.2)) rfl ?_
    exact RunOps.nil' (Norm.mk [0, 1, 2] (by decide) (by decide) (by decide) ⟨.ptr 2 _ _ (show 2 < 3 by decide), .d _, trivial⟩ ⟨⟨show 0 < 3 by decide, _, rfl, .vars ⟨.loc 1 _ _ (show 1 < 3 by decide), .d _, .d _, .d _, trivial⟩⟩, ⟨show 1 < 3 by decide, _, rfl, .lst _ _ _⟩, ⟨show 2 < 3 by decide, _, rfl, .vars ⟨.d _, .d _, .d _, trivial⟩⟩, trivial⟩)
  have hh := Option.some.inj h
  subst hh
  refine NWp.ret ?_
  exact ⟨.inr rfl, _, rfl, rfl, AllS.sub ⟨rfl, rfl, trivial⟩, rfl⟩

theorem c_queue_Queue_Len {a0 : queue_Queue} {r : Int} (h : queue_Queue_Len a0 = some r) : PCall Try.prog 18 [.cptr (some 4) (equeue_Queue a0) 0] (.int .i64 r) := by
  refine PCall.introN ok18 (show 1 ≤ 9 by decide) ?_
  refine NWp.norm (s0 := ⟨tab [(0, .d (.cptr (some 4) (equeue_Queue a0) 0))], stab [], 0⟩) (Norm.mk [] (by decide) (by decide) (by decide) ⟨.d _, trivial⟩ trivial) ?_
  refine NWp.opsJ ⟨tab [(0, .d (.cptr (some 4) (equeue_Queue a0) 0))], stab [], 0⟩ ?_ ?_
  · refine step (v := .d (.int .i64 0)) rfl ?_
    exact RunOps.nil' (Norm.mk [] (by decide) (by decide) (by decide) ⟨.d _, trivial⟩ trivial)
  refine NWp.seq ?_
  refine NWp.opsJ ⟨tab [(0, .d (.cptr (some 4) (equeue_Queue a0) 0)), (4, .d (.bool false))], stab [], 0⟩ ?_ ?_
  · refine step (v := .d (.cptr (some 4) (equeue_Queue a0) 0)) rfl ?_
    refine step (v := .d (.bool false)) rfl ?_
    exact RunOps.nil' (Norm.mk [] (by decide) (by decide) (by decide) ⟨.d _, .d _, trivial⟩ trivial)
  refine NWp.condF (t := false) rfl (by decide) ?_
  refine NWp.skip ?_
  refine NWp.opsJ ⟨tab [(2, .d (.int .i64 a0.n_))], stab [], 0⟩ ?_ ?_
  · refine step (v := .d (.cptr (some 4) (equeue_Queue a0) 0)) rfl ?_
    refine step (v := .d (.cptr (some 4) (equeue_Queue a0) 0)) rfl ?_
    refine step (v := .d (.cptr (some 4) (equeue_Queue a0) 2)) rfl ?_
    refine step (v := .d (.int .i64 a0.n_)) rfl ?_
    refine step (v := .d (.int .i64 a0.n_)) rfl ?_
    exact RunOps.nil' (Norm.mk [] (by decide) (by decide) (by decide) ⟨.d _, trivial⟩ trivial)
  have hh := Option.some.inj h
  subst hh
  refine NWp.ret ?_
  show FQ _ _ _ _
  exact FQ.mk1 (.inr rfl) (res_t (v := .d (.int .i64 a0.n_)) rfl rfl) (RV.d trivial)

theorem c_queue_Queue_Lost {a0 : queue_Queue} {r : Int} (h : queue_Queue_Lost a0 = some r) : PCall Try.prog 19 [.cptr (some 4) (equeue_Queue a0) 0] (.int .i64 r) := by
  refine PCall.introN ok19 (show 1 ≤ 9 by decide) ?_
  refine NWp.norm (s0 := ⟨tab [(0, .d (.cptr (some 4) (equeue_Queue a0) 0))], stab [], 0⟩) (Norm.mk [] (by decide) (by decide) (by decide) ⟨.d _, trivial⟩ trivial) ?_
  refine NWp.opsJ ⟨tab [(0, .d (.cptr (some 4) (equeue_Queue a0) 0))], stab [], 0⟩ ?_ ?_
  · refine step (v := .d (.int .i64 0)) rfl ?_
    exact RunOps.nil' (Norm.mk [] (by decide) (by decide) (by decide) ⟨.d _, trivial⟩ trivial)
  refine NWp.seq ?_
  refine NWp.opsJ ⟨tab [(0, .d (.cptr (some 4) (equeue_Queue a0) 0)), (4, .d (.bool false))], stab [], 0⟩ ?_ ?_
  · refine step (v := .d (.cptr (some 4) (equeue_Queue a0) 0)) rfl ?_
    refine step (v := .d (.bool false)) rfl ?_
    exact RunOps.nil' (Norm.mk [] (by decide) (by decide) (by decide) ⟨.d _, .d _, trivial⟩ trivial)
  refine NWp.condF (t := false) rfl (by decide) ?_
  refine NWp.skip ?_
  refine NWp.opsJ ⟨tab [(2, .d (.int .i64 a0.lost))], stab [], 0⟩ ?_ ?_
  · refine step (v := .d (.cptr (some 4) (equeue_Queue a0) 0)) rfl ?_
    refine step (v := .d (.cptr (some 4) (equeue_Queue a0) 0)) rfl ?_
    refine step (v := .d (.cptr (some 4) (equeue_Queue a0) 3)) rfl ?_
    refine step (v := .d (.int .i64 a0.lost)) rfl ?_
    refine step (v := .d (.int .i64 a0.lost)) rfl ?_
    exact RunOps.nil' (Norm.mk [] (by decide) (by decide) (by decide) ⟨.d _, trivial⟩ trivial)
  have hh := Option.some.inj h
  subst hh
  refine NWp.ret ?_
  show FQ _ _ _ _
  exact FQ.mk1 (.inr rfl) (res_t (v := .d (.int .i64 a0.lost)) rfl rfl) (RV.d trivial)

theorem c_law16_awake  {r : Bool} (h : law16_awake  = some r) : PCall Try.prog 11 [] (.bool r) := by
  refine PCall.introN ok11 (show 0 ≤ 50 by decide) ?_
  refine NWp.norm (s0 := ⟨tab [], stab [], 0⟩) (Norm.mk [] (by decide) (by decide) (by decide) trivial trivial) ?_
  refine NWp.opsJ ⟨tab [], stab [], 0⟩ ?_ ?_
  · refine step (v := .d (.bool false)) rfl ?_
    exact RunOps.nil' (Norm.mk [] (by decide) (by decide) (by decide) trivial trivial)
  obtain ⟨r1, hr1, h⟩ := bindE h
  refine NWp.opsJ ⟨tab [(1, .ptr 0 0 0)], stab [(0, .var [.loc 1 0 r1.ring.length, .d (.int .i64 r1.first), .d (.int .i64 r1.n_), .d (.int .i64 r1.lost)]), (1, .lst true (some 3) (List.map eapi_Item r1.ring))], 2⟩ ?_ ?_
  · refine stepW (v := .ptr 0 0 0) (σ' := (upd (upd (stab []) 1 (some (.lst true (some 3) (List.map eapi_Item r1.ring)))) 0 (some (.var [.loc 1 0 r1.ring.length, .d (.int .i64 r1.first), .d (.int .i64 r1.n_), .d (.int .i64 r1.lost)])))) (n' := 2) (SCall.lift [] (c_queue_New hr1) (show 0 ≤ 2 by decide) (by decide) (show ∀ i ∈ [], i < 0 by decide) (dom_c (show 0 < 2 by decide) (dom_c (show 1 < 2 by decide) dom_n)) (VNs.c (.d _) VNs.nil0) SN.nil0) (show 0 ≤ 2 by decide) ?_
    refine step (v := .ptr 0 0 0) rfl ?_
    exact RunOps.nil' (Norm.mk [0, 1] (by decide) (by decide) (by decide) ⟨.ptr 0 _ _ (show 0 < 2 by decide), trivial⟩ ⟨⟨show 0 < 2 by decide, _, rfl, .vars ⟨.loc 1 _ _ (show 1 < 2 by decide), .d _, .d _, .d _, trivial⟩⟩, ⟨show 1 < 2 by decide, _, rfl, .lst _ _ _⟩, trivial⟩)
  obtain ⟨r2, hr2, h⟩ := bindE h
  obtain ⟨r3, hr3, h⟩ := bindE h
  obtain ⟨r4, hr4, h⟩ := bindE h
  refine NWp.opsJ ⟨tab [(1, .ptr 0 0 0), (2, .d (.int .i64 r2.1)), (3, .d (.int .i64 r3.1)), (4, .d (.int .i64 r4.1))], stab [(0, .var [.loc 1 0 r4.2.ring.length, .d (.int .i64 r4.2.first), .d (.int .i64 r4.2.n_), .d (.int .i64 r4.2.lost)]), (1, .lst true (some 3) (List.map eapi_Item r4.2.ring))], 2⟩ ?_ ?_
  · refine step (v := .ptr 0 0 0) rfl ?_
    refine step (v := .d (eapi_Item (api_Item.mk 0 (⟨#[]⟩ : ByteArray) 1))) (st_build (ds := [.int .u16 0, .str (⟨#[]⟩ : ByteArray), .int .i64 1]) rfl) ?_
    refine stepW (v := .d (.int .i64 r2.1)) (σ' := (upd (upd (upd (upd (stab [(0, .var [.loc 1 0 r1.ring.length, .d (.int .i64 r1.first), .d (.int .i64 r1.n_), .d (.int .i64 r1.lost)]), (1, .lst true (some 3) (List.map eapi_Item r1.ring))]) 1 none) 0 none) 1 (some (.lst true (some 3) (List.map eapi_Item r2.2.ring)))) 0 (some (.var [.loc 1 0 r2.2.ring.length, .d (.int .i64 r2.2.first), .d (.int .i64 r2.2.n_), .d (.int .i64 r2.2.lost)])))) (n' := 2) (SCall.lift [0, 1] (c_queue_Queue_Push hr2) (show 2 ≤ 2 by decide) (by decide) (show ∀ i ∈ [0, 1], i < 2 by decide) (dom_c (show 0 < 2 by decide) (dom_c (show 1 < 2 by decide) dom_n)) (VNs.c (.ptr 0 _ _ (show 0 < 2 by decide)) (VNs.c (.d _) VNs.nil0)) (SN.c (show 0 < 2 by decide) rfl (.vars (VNs.c (.loc 1 _ _ (show 1 < 2 by decide)) (VNs.c (.d _) (VNs.c (.d _) (VNs.c (.d _) VNs.nil0))))) (SN.c (show 1 < 2 by decide) rfl (.lst _ _ _) SN.nil0))) (show 2 ≤ 2 by decide) ?_
    refine step (v := .ptr 0 0 0) rfl ?_
    refine step (v := .d (eapi_Item (api_Item.mk 0 (⟨#[]⟩ : ByteArray) 2))) (st_build (ds := [.int .u16 0, .str (⟨#[]⟩ : ByteArray), .int .i64 2]) rfl) ?_
    refine stepW (v := .d (.int .i64 r3.1)) (σ' := (upd (upd (upd (upd (upd (upd (upd (upd (stab [(0, .var [.loc 1 0 r1.ring.length, .d (.int .i64 r1.first), .d (.int .i64 r1.n_), .d (.int .i64 r1.lost)]), (1, .lst true (some 3) (List.map eapi_Item r1.ring))]) 1 none) 0 none) 1 (some (.lst true (some 3) (List.map eapi_Item r2.2.ring)))) 0 (some (.var [.loc 1 0 r2.2.ring.length, .d (.int .i64 r2.2.first), .d (.int .i64 r2.2.n_), .d (.int .i64 r2.2.lost)]))) 1 none) 0 none) 1 (some (.lst true (some 3) (List.map eapi_Item r3.2.ring)))) 0 (some (.var [.loc 1 0 r3.2.ring.length, .d (.int .i64 r3.2.first), .d (.int .i64 r3.2.n_), .d (.int .i64 r3.2.lost)])))) (n' := 2) (SCall.lift [0, 1] (c_queue_Queue_Push hr3) (show 2 ≤ 2 by decide) (by decide) (show ∀ i ∈ [0, 1], i < 2 by decide) (dom_c (show 0 < 2 by decide) (dom_c (show 1 < 2 by decide) dom_n)) (VNs.c (.ptr 0 _ _ (show 0 < 2 by decide)) (VNs.c (.d _) VNs.nil0)) (SN.c (show 0 < 2 by decide) rfl (.vars (VNs.c (.loc 1 _ _ (show 1 < 2 by decide)) (VNs.c (.d _) (VNs.c (.d _) (VNs.c (.d _) VNs.nil0))))) (SN.c (show 1 < 2 by decide) rfl (.lst _ _ _) SN.nil0))) (show 2 ≤ 2 by decide) ?_
    refine step (v := .ptr 0 0 0) rfl ?_
    refine step (v := .d (eapi_Item (api_Item.mk 0 (⟨#[]⟩ : ByteArray) 3))) (st_build (ds := [.int .u16 0, .str (⟨#[]⟩ : ByteArray), .int .i64 3]) rfl) ?_
    refine stepW (v := .d (.int .i64 r4.1)) (σ' := (upd (upd (upd (upd (upd (upd (upd (upd (upd (upd (upd (upd (stab [(0, .var [.loc 1 0 r1.ring.length, .d (.int .i64 r1.first), .d (.int .i64 r1.n_), .d (.int .i64 r1.lost)]), (1, .lst true (some 3) (List.map eapi_Item r1.ring))]) 1 none) 0 none) 1 (some (.lst true (some 3) (List.map eapi_Item r2.2.ring)))) 0 (some (.var [.loc 1 0 r2.2.ring.length, .d (.int .i64 r2.2.first), .d (.int .i64 r2.2.n_), .d (.int .i64 r2.2.lost)]))) 1 none) 0 none) 1 (some (.lst true (some 3) (List.map eapi_Item r3.2.ring)))) 0 (some (.var [.loc 1 0 r3.2.ring.length, .d (.int .i64 r3.2.first), .d (.int .i64 r3.2.n_), .d (.int .i64 r3.2.lost)]))) 1 none) 0 none) 1 (some (.lst true (some 3) (List.map eapi_Item r4.2.ring)))) 0 (some (.var [.loc 1 0 r4.2.ring.length, .d (.int .i64 r4.2.first), .d (.int .i64 r4.2.n_), .d (.int .i64 r4.2.lost)])))) (n' := 2) (SCall.lift [0, 1] (c_queue_Queue_Push hr4) (show 2 ≤ 2 by decide) (by decide) (show ∀ i ∈ [0, 1], i < 2 by decide) (dom_c (show 0 < 2 by decide) (dom_c (show 1 < 2 by decide) dom_n)) (VNs.c (.ptr 0 _ _ (show 0 < 2 by decide)) (VNs.c (.d _) VNs.nil0)) (SN.c (show 0 < 2 by decide) rfl (.vars (VNs.c (.loc 1 _ _ (show 1 < 2 by decide)) (VNs.c (.d _) (VNs.c (.d _) (VNs.c (.d _) VNs.nil0))))) (SN.c (show 1 < 2 by decide) rfl (.lst _ _ _) SN.nil0))) (show 2 ≤ 2 by decide) ?_
    refine step (v := .d (.int .i64 r2.1)) rfl ?_
    refine step (v := .d (.int .i64 r3.1)) rfl ?_
    refine step (v := .d (.int .i64 r4.1)) rfl ?_
    exact RunOps.nil' (Norm.mk [0, 1] (by decide) (by decide) (by decide) ⟨.ptr 0 _ _ (show 0 < 2 by decide), .d _, .d _, .d _, trivial⟩ ⟨⟨show 0 < 2 by decide, _, rfl, .vars ⟨.loc 1 _ _ (show 1 < 2 by decide), .d _, .d _, .d _, trivial⟩⟩, ⟨show 1 < 2 by decide, _, rfl, .lst _ _ _⟩, trivial⟩)
  obtain ⟨r5, hr5, h⟩ := bindE h
  refine NWp.opsJ ⟨tab [(1, .ptr 0 0 0), (2, .d (.int .i64 r2.1)), (3, .d (.int .i64 r3.1)), (4, .d (.int .i64 r4.1)), (5, .ptr 2 0 0), (6, .d (.bool r5.2.1))], stab [(0, .var [.loc 1 0 r5.2.2.ring.length, .d (.int .i64 r5.2.2.first), .d (.int .i64 r5.2.2.n_), .d (.int .i64 r5.2.2.lost)]), (1, .lst true (some 3) (List.map eapi_Item r5.2.2.ring)), (2, .var [.d (.int .u16 r5.1.Pt), .d (.str r5.1.Raw), .d (.int .i64 r5.1.N)])], 3⟩ ?_ ?_
  · refine step (v := .ptr 0 0 0) rfl ?_
    refine stepW (v := .d (.tup [eapi_Item r5.1, .bool r5.2.1])) (σ' := (upd (upd (upd (upd (stab [(0, .var [.loc 1 0 r4.2.ring.length, .d (.int .i64 r4.2.first), .d (.int .i64 r4.2.n_), .d (.int .i64 r4.2.lost)]), (1, .lst true (some 3) (List.map eapi_Item r4.2.ring))]) 1 none) 0 none) 1 (some (.lst true (some 3) (List.map eapi_Item r5.2.2.ring)))) 0 (some (.var [.loc 1 0 r5.2.2.ring.length, .d (.int .i64 r5.2.2.first), .d (.int .i64 r5.2.2.n_), .d (.int .i64 r5.2.2.lost)])))) (n' := 3) (SCall.lift [0, 1] (c_queue_Queue_Pop hr5) (show 2 ≤ 3 by decide) (by decide) (show ∀ i ∈ [0, 1], i < 2 by decide) (dom_c (show 0 < 3 by decide) (dom_c (show 1 < 3 by decide) dom_n)) (VNs.c (.ptr 0 _ _ (show 0 < 2 by decide)) VNs.nil0) (SN.c (show 0 < 2 by decide) rfl (.vars (VNs.c (.loc 1 _ _ (show 1 < 2 by decide)) (VNs.c (.d _) (VNs.c (.d _) (VNs.c (.d _) VNs.nil0))))) (SN.c (show 1 < 2 by decide) rfl (.lst _ _ _) SN.nil0))) (show 2 ≤ 3 by decide) ?_
    refine step (v := .d (.tup [eapi_Item r5.1, .bool r5.2.1])) rfl ?_
    refine step (v := .d (eapi_Item r5.1)) rfl ?_
    refine step (v := .d (.bool r5.2.1)) rfl ?_
    refine step (v := .ptr 3 0 0) (σ' := (upd (upd (upd (upd (upd (stab [(0, .var [.loc 1 0 r4.2.ring.length, .d (.int .i64 r4.2.first), .d (.int .i64 r4.2.n_), .d (.int .i64 r4.2.lost)]), (1, .lst true (some 3) (List.map eapi_Item r4.2.ring))]) 1 none) 0 none) 1 (some (.lst true (some 3) (List.map eapi_Item r5.2.2.ring)))) 0 (some (.var [.loc 1 0 r5.2.2.ring.length, .d (.int .i64 r5.2.2.first), .d (.int .i64 r5.2.2.n_), .d (.int .i64 r5.2.2.lost)]))) 3 (some (.var [.d (.int .u16 0), .d (.str (⟨#[]⟩ : ByteArray)), .d (.int .i64 0)])))) (n' := 4) rfl ?_
    refine step (v := V.undef) (σ' := (upd (upd (upd (upd (upd (upd (stab [(0, .var [.loc 1 0 r4.2.ring.length, .d (.int .i64 r4.2.first), .d (.int .i64 r4.2.n_), .d (.int .i64 r4.2.lost)]), (1, .lst true (some 3) (List.map eapi_Item r4.2.ring))]) 1 none) 0 none) 1 (some (.lst true (some 3) (List.map eapi_Item r5.2.2.ring)))) 0 (some (.var [.loc 1 0 r5.2.2.ring.length, .d (.int .i64 r5.2.2.first), .d (.int .i64 r5.2.2.n_), .d (.int .i64 r5.2.2.lost)]))) 3 (some (.var [.d (.int .u16 0), .d (.str (⟨#[]⟩ : ByteArray)), .d (.int .i64 0)]))) 3 (some (.var [.d (.int .u16 r5.1.Pt), .d (.str r5.1.Raw), .d (.int .i64 r5.1.N)])))) (n' := 4) rfl ?_
    refine step (v := .d (.bool r5.2.1)) rfl ?_
    exact RunOps.nil' (Norm.mk [0, 1, 3] (by decide) (by decide) (by decide) ⟨.ptr 0 _ _ (show 0 < 3 by decide), .d _, .d _, .d _, .ptr 2 _ _ (show 2 < 3 by decide), .d _, trivial⟩ ⟨⟨show 0 < 3 by decide, _, rfl, .vars ⟨.loc 1 _ _ (show 1 < 3 by decide), .d _, .d _, .d _, trivial⟩⟩, ⟨show 1 < 3 by decide, _, rfl, .lst _ _ _⟩, ⟨show 2 < 3 by decide, _, rfl, .vars ⟨.d _, .d _, .d _, trivial⟩⟩, trivial⟩)
  obtain ⟨y14, hv, h⟩ := bindE h
  refine NWp.opsJ ⟨tab [(0, .d (.bool y14))], stab [], 0⟩ ?_ ?_
  · refine step (v := .d (.int .i64 r2.1)) rfl ?_
    refine step (v := .d (.bool (r2.1 == 0))) rfl ?_
    refine step (v := .d (.bool (r2.1 == 0))) rfl ?_
    by_cases hg6 : (r2.1 == 0) = true
    · replace hv := iteT hg6 hv
      refine stepG (c := (r2.1 == 0)) rfl hg6 ?_
      refine step (v := .d (.int .i64 r3.1)) rfl ?_
      refine stepG (c := (r2.1 == 0)) rfl hg6 ?_
      refine step (v := .d (.bool (r3.1 == 0))) rfl ?_
      refine step (v := .d (.bool (r3.1 == 0))) (st_pickT (b := (r2.1 == 0)) rfl hg6 rfl) ?_
      refine step (v := .d (.bool (r3.1 == 0))) rfl ?_
      by_cases hg7 : (r3.1 == 0) = true
      · replace hv := iteT hg7 hv
        refine stepG (c := (r3.1 == 0)) rfl hg7 ?_
        refine step (v := .d (.int .i64 r4.1)) rfl ?_
        refine stepG (c := (r3.1 == 0)) rfl hg7 ?_
        refine step (v := .d (.bool (r4.1 == 32))) rfl ?_
        refine step (v := .d (.bool (r4.1 == 32))) (st_pickT (b := (r3.1 == 0)) rfl hg7 rfl) ?_
        refine step (v := .d (.bool (r4.1 == 32))) rfl ?_
        by_cases hg8 : (r4.1 == 32) = true
        · replace hv := iteT hg8 hv
          refine stepG (c := (r4.1 == 32)) rfl hg8 ?_
          refine step (v := .d (.bool r5.2.1)) rfl ?_
          refine step (v := .d (.bool r5.2.1)) (st_pickT (b := (r4.1 == 32)) rfl hg8 rfl) ?_
          refine step (v := .d (.bool r5.2.1)) rfl ?_
          by_cases hg9 : r5.2.1 = true
          · replace hv := iteT hg9 hv
            refine stepG (c := r5.2.1) rfl hg9 ?_
            refine step (v := .ptr 2 0 2) rfl ?_
            refine stepG (c := r5.2.1) rfl hg9 ?_
            refine step (v := .d (.int .i64 r5.1.N)) rfl ?_
            refine stepG (c := r5.2.1) rfl hg9 ?_
            refine step (v := .d (.bool (r5.1.N == 1))) rfl ?_
            refine step (v := .d (.bool (r5.1.N == 1))) (st_pickT (b := r5.2.1) rfl hg9 rfl) ?_
            refine step (v := .d (.bool (r5.1.N == 1))) rfl ?_
            by_cases hg10 : (r5.1.N == 1) = true
            · replace hv := iteT hg10 hv
              obtain ⟨r11, hr11, hv⟩ := bindE hv
              refine stepG (c := (r5.1.N == 1)) rfl hg10 ?_
              refine step (v := .ptr 0 0 0) rfl ?_
              refine stepG (c := (r5.1.N == 1)) rfl hg10 ?_
              refine stepW (v := .d (.int .i64 r11)) (σ' := _) (n' := _) (PCall.borrow (c_queue_Queue_Len hr11) rfl (ViewsB.c (viewB_var rfl (ViewsB.c (viewB_all (xs := r5.2.2.ring) (e := eapi_Item) rfl rfl) (ViewsB.c (.d _) (ViewsB.c (.d _) (ViewsB.c (.d _) ViewsB.nil0))))) ViewsB.nil0)) (Nat.le_refl _) ?_
              refine stepG (c := (r5.1.N == 1)) rfl hg10 ?_
              refine step (v := .d (.bool (r11 == 1))) rfl ?_
              refine step (v := .d (.bool (r11 == 1))) (st_pickT (b := (r5.1.N == 1)) rfl hg10 rfl) ?_
              refine step (v := .d (.bool (r11 == 1))) rfl ?_
              by_cases hg12 : (r11 == 1) = true
              · replace hv := iteT hg12 hv
                obtain ⟨r13, hr13, hv⟩ := bindE hv
                refine stepG (c := (r11 == 1)) rfl hg12 ?_
                refine step (v := .ptr 0 0 0) rfl ?_
                refine stepG (c := (r11 == 1)) rfl hg12 ?_
                refine stepW (v := .d (.int .i64 r13)) (σ' := _) (n' := _) (PCall.borrow (c_queue_Queue_Lost hr13) rfl (ViewsB.c (viewB_var rfl (ViewsB.c (viewB_all (xs := r5.2.2.ring) (e := eapi_Item) rfl rfl) (ViewsB.c (.d _) (ViewsB.c (.d _) (ViewsB.c (.d _) ViewsB.nil0))))) ViewsB.nil0)) (Nat.le_refl _) ?_
                refine stepG (c := (r11 == 1)) rfl hg12 ?_
                refine step (v := .d (.bool (r13 == 1))) rfl ?_
                refine step (v := .d (.bool (r13 == 1))) (st_pickT (b := (r11 == 1)) rfl hg12 rfl) ?_
                refine step (v := .d (.bool (r13 == 1))) rfl ?_
                have hh := Option.some.inj hv
                subst hh
                exact RunOps.nil' (Norm.mk [] (by decide) (by decide) (by decide) ⟨.d _, trivial⟩ trivial)
              · replace hv := iteF hg12 hv
                refine stepX (c := (r11 == 1)) rfl hg12 ?_
                refine stepX (c := (r11 == 1)) rfl hg12 ?_
                refine stepX (c := (r11 == 1)) rfl hg12 ?_
                refine step (v := .d (.bool false)) (st_pickF (b := (r11 == 1)) rfl hg12 rfl) ?_
                refine step (v := .d (.bool false)) rfl ?_
                have hh := Option.some.inj hv
                subst hh
                exact RunOps.nil' (Norm.mk [] (by decide) (by decide) (by decide) ⟨.d _, trivial⟩ trivial)
            · replace hv := iteF hg10 hv
              refine stepX (c := (r5.1.N == 1)) rfl hg10 ?_
              refine stepX (c := (r5.1.N == 1)) rfl hg10 ?_
              refine stepX (c := (r5.1.N == 1)) rfl hg10 ?_
              refine step (v := .d (.bool false)) (st_pickF (b := (r5.1.N == 1)) rfl hg10 rfl) ?_
              refine step (v := .d (.bool false)) rfl ?_
              refine stepX (c := false) rfl (by decide) ?_
              refine stepX (c := false) rfl (by decide) ?_
              refine stepX (c := false) rfl (by decide) ?_
              refine step (v := .d (.bool false)) (st_pickF (b := false) rfl (by decide) rfl) ?_
              refine step (v := .d (.bool false)) rfl ?_
              have hh := Option.some.inj hv
              subst hh
              exact RunOps.nil' (Norm.mk [] (by decide) (by decide) (by decide) ⟨.d _, trivial⟩ trivial)
          · replace hv := iteF hg9 hv
            refine stepX (c := r5.2.1) rfl hg9 ?_
            refine stepX (c := r5.2.1) rfl hg9 ?_
            refine stepX (c := r5.2.1) rfl hg9 ?_
            refine step (v := .d (.bool false)) (st_pickF (b := r5.2.1) rfl hg9 rfl) ?_
            refine step (v := .d (.bool false)) rfl ?_
            refine stepX (c := false) rfl (by decide) ?_
            refine stepX (c := false) rfl (by decide) ?_
            refine stepX (c := false) rfl (by decide) ?_
            refine step (v := .d (.bool false)) (st_pickF (b := false) rfl (by decide) rfl) ?_
            refine step (v := .d (.bool false)) rfl ?_
            refine stepX (c := false) rfl (by decide) ?_
            refine stepX (c := false) rfl (by decide) ?_
            refine stepX (c := false) rfl (by decide) ?_
            refine step (v := .d (.bool false)) (st_pickF (b := false) rfl (by decide) rfl) ?_
            refine step (v := .d (.bool false)) rfl ?_
            have hh := Option.some.inj hv
            subst hh
            exact RunOps.nil' (Norm.mk [] (by decide) (by decide) (by decide) ⟨.d _, trivial⟩ trivial)
        · replace hv := iteF hg8 hv
          refine stepX (c := (r4.1 == 32)) rfl hg8 ?_
          refine step (v := .d (.bool false)) (st_pickF (b := (r4.1 == 32)) rfl hg8 rfl) ?_
          refine step (v := .d (.bool false)) rfl ?_
          refine stepX (c := false) rfl (by decide) ?_
          refine stepX (c := false) rfl (by decide) ?_
          refine stepX (c := false) rfl (by decide) ?_
          refine step (v := .d (.bool false)) (st_pickF (b := false) rfl (by decide) rfl) ?_
          refine step (v := .d (.bool false)) rfl ?_
          refine stepX (c := false) rfl (by decide) ?_
          refine stepX (c := false) rfl (by decide) ?_
          refine stepX (c := false) rfl (by decide) ?_
          refine step (v := .d (.bool false)) (st_pickF (b := false) rfl (by decide) rfl) ?_
          refine step (v := .d (.bool false)) rfl ?_
          refine stepX (c := false) rfl (by decide) ?_
          refine stepX (c := false) rfl (by decide) ?_
          refine stepX (c := false) rfl (by decide) ?_
          refine step (v := .d (.bool false)) (st_pickF (b := false) rfl (by decide) rfl) ?_
          refine step (v := .d (.bool false)) rfl ?_
          have hh := Option.some.inj hv
          subst hh
          exact RunOps.nil' (Norm.mk [] (by decide) (by decide) (by decide) ⟨.d _, trivial⟩ trivial)
      · replace hv := iteF hg7 hv
        refine stepX (c := (r3.1 == 0)) rfl hg7 ?_
        refine stepX (c := (r3.1 == 0)) rfl hg7 ?_
        refine step (v := .d (.bool false)) (st_pickF (b := (r3.1 == 0)) rfl hg7 rfl) ?_
        refine step (v := .d (.bool false)) rfl ?_
        refine stepX (c := false) rfl (by decide) ?_
        refine step (v := .d (.bool false)) (st_pickF (b := false) rfl (by decide) rfl) ?_
        refine step (v := .d (.bool false)) rfl ?_
        refine stepX (c := false) rfl (by decide) ?_
        refine stepX (c := false) rfl (by decide) ?_
        refine stepX (c := false) rfl (by decide) ?_
        refine step (v := .d (.bool false)) (st_pickF (b := false) rfl (by decide) rfl) ?_
        refine step (v := .d (.bool false)) rfl ?_
        refine stepX (c := false) rfl (by decide) ?_
        refine stepX (c := false) rfl (by decide) ?_
        refine stepX (c := false) rfl (by decide) ?_
        refine step (v := .d (.bool false)) (st_pickF (b := false) rfl (by decide) rfl) ?_
        refine step (v := .d (.bool false)) rfl ?_
        refine stepX (c := false) rfl (by decide) ?_
        refine stepX (c := false) rfl (by decide) ?_
        refine stepX (c := false) rfl (by decide) ?_
        refine step (v := .d (.bool false)) (st_pickF (b := false) rfl (by decide) rfl) ?_
        refine step (v := .d (.bool false)) rfl ?_
        have hh := Option.some.inj hv
        subst hh
        exact RunOps.nil' (Norm.mk [] (by decide) (by decide) (by decide) ⟨.d _, trivial⟩ trivial)
    · replace hv := iteF hg6 hv
      refine stepX (c := (r2.1 == 0)) rfl hg6 ?_
      refine stepX (c := (r2.1 == 0)) rfl hg6 ?_
      refine step (v := .d (.bool false)) (st_pickF (b := (r2.1 == 0)) rfl hg6 rfl) ?_
      refine step (v := .d (.bool false)) rfl ?_
      refine stepX (c := false) rfl (by decide) ?_
      refine stepX (c := false) rfl (by decide) ?_
      refine step (v := .d (.bool false)) (st_pickF (b := false) rfl (by decide) rfl) ?_
      refine step (v := .d (.bool false)) rfl ?_
      refine stepX (c := false) rfl (by decide) ?_
      refine step (v := .d (.bool false)) (st_pickF (b := false) rfl (by decide) rfl) ?_
      refine step (v := .d (.bool false)) rfl ?_
      refine stepX (c := false) rfl (by decide) ?_
      refine stepX (c := false) rfl (by decide) ?_
      refine stepX (c := false) rfl (by decide) ?_
      refine step (v := .d (.bool false)) (st_pickF (b := false) rfl (by decide) rfl) ?_
      refine step (v := .d (.bool false)) rfl ?_
      refine stepX (c := false) rfl (by decide) ?_
      refine stepX (c := false) rfl (by decide) ?_
      refine stepX (c := false) rfl (by decide) ?_
      refine step (v := .d (.bool false)) (st_pickF (b := false) rfl (by decide) rfl) ?_
      refine step (v := .d (.bool false)) rfl ?_
      refine stepX (c := false) rfl (by decide) ?_
      refine stepX (c := false) rfl (by decide) ?_
      refine stepX (c := false) rfl (by decide) ?_
      refine step (v := .d (.bool false)) (st_pickF (b := false) rfl (by decide) rfl) ?_
      refine step (v := .d (.bool false)) rfl ?_
      have hh := Option.some.inj hv
      subst hh
      exact RunOps.nil' (Norm.mk [] (by decide) (by decide) (by decide) ⟨.d _, trivial⟩ trivial)
  have hh := Option.some.inj h
  subst hh
  refine NWp.ret ?_
  show FQ _ _ _ _
  exact FQ.mk1 (.inr rfl) (res_t (v := .d (.bool y14)) rfl rfl) (RV.d trivial)

theorem c_ref16_New {a0 : Int} {r : ref16_Queue} (h : ref16_New a0 = some r) : PCall Try.prog 13 [.int .i64 a0] (eref16_Queue r) := by
  refine PCall.introN ok13 (show 1 ≤ 7 by decide) ?_
  refine NWp.norm (s0 := ⟨tab [(0, .d (.int .i64 a0))], stab [], 0⟩) (Norm.mk [] (by decide) (by decide) (by decide) ⟨.d _, trivial⟩ trivial) ?_
  refine NWp.opsJ ⟨tab [(0, .d (.int .i64 a0)), (2, .ptr 0 0 0)], stab [(0, .var [.d (.int .i64 0), .d (eL (some 3) eapi_Item []), .d (.int .i64 0)])], 1⟩ ?_ ?_
  · refine step (v := .ptr 0 0 0) (σ' := (upd (stab []) 0 (some (.var [.d (.int .i64 0), .d (eL (some 3) eapi_Item []), .d (.int .i64 0)])))) (n' := 1) rfl ?_
    exact RunOps.nil' (Norm.mk [0] (by decide) (by decide) (by decide) ⟨.d _, .ptr 0 _ _ (show 0 < 1 by decide), trivial⟩ ⟨⟨show 0 < 1 by decide, _, rfl, .vars ⟨.d _, .d _, .d _, trivial⟩⟩, trivial⟩)
  refine NWp.opsJ ⟨tab [(2, .ptr 0 0 0)], stab [(0, .var [.d (.int .i64 (imin (imax a0 0) 64)), .d (eL (some 3) eapi_Item []), .d (.int .i64 0)])], 1⟩ ?_ ?_
  · refine step (v := .d (.int .i64 a0)) rfl ?_
    refine step (v := .d (.int .i64 (imax a0 0))) rfl ?_
    refine step (v := .d (.int .i64 (imin (imax a0 0) 64))) rfl ?_
    refine step (v := .d (eref16_Queue (ref16_Queue.mk (imin (imax a0 0) 64) [] 0))) (st_build (ds := [.int .i64 (imin (imax a0 0) 64), eL (some 3) eapi_Item [], .int .i64 0]) rfl) ?_
    refine step (v := V.undef) (σ' := (upd (stab [(0, .var [.d (.int .i64 0), .d (eL (some 3) eapi_Item []), .d (.int .i64 0)])]) 0 (some (.var [.d (.int .i64 (imin (imax a0 0) 64)), .d (eL (some 3) eapi_Item []), .d (.int .i64 0)])))) (n' := 1) rfl ?_
    exact RunOps.nil' (Norm.mk [0] (by decide) (by decide) (by decide) ⟨.ptr 0 _ _ (show 0 < 1 by decide), trivial⟩ ⟨⟨show 0 < 1 by decide, _, rfl, .vars ⟨.d _, .d _, .d _, trivial⟩⟩, trivial⟩)
  have hh := Option.some.inj h
  subst hh
  refine NWp.ret ?_
  show FQ _ _ _ _
  exact FQ.mk1 (.inr rfl) (res_cell (ds := [.int .i64 (imin (imax a0 0) 64), eL (some 3) eapi_Item [], .int .i64 0]) rfl rfl (show 3 ≤ 3 by decide) rfl rfl) (RV.d trivial)

theorem c_ref16_Queue_Push {a0 : ref16_Queue} {a1 : api_Item} {r : (ref16_Queue × Int)} (h : ref16_Queue_Push a0 a1 = some r) : PCall Try.prog 14 [eref16_Queue a0, eapi_Item a1] (.tup [eref16_Queue r.1, .int .i64 r.2]) := by
  refine PCall.introN ok14 (show 2 ≤ 26 by decide) ?_
  refine NWp.norm (s0 := ⟨tab [(0, .d (eref16_Queue a0)), (1, .d (eapi_Item a1))], stab [], 0⟩) (Norm.mk [] (by decide) (by decide) (by decide) ⟨.d _, .d _, trivial⟩ trivial) ?_
  refine NWp.opsJ ⟨tab [(2, .ptr 0 0 0), (3, .d (.cptr (some 3) (eapi_Item a1) 0)), (4, .ptr 1 0 0)], stab [(0, .var [.d (.int .i64 a0.Places), .d (eL (some 3) eapi_Item a0.L), .d (.int .i64 a0.Lost)]), (1, .var [.d (.int .i64 0), .d (eL (some 3) eapi_Item []), .d (.int .i64 0)])], 2⟩ ?_ ?_
  · refine step (v := .ptr 0 0 0) (σ' := (upd (stab []) 0 (some (.var [.d (.int .i64 a0.Places), .d (eL (some 3) eapi_Item a0.L), .d (.int .i64 a0.Lost)])))) (n' := 1) rfl ?_
    refine step (v := .d (.cptr (some 3) (eapi_Item a1) 0)) rfl ?_
    refine step (v := .ptr 1 0 0) (σ' := (upd (upd (stab []) 0 (some (.var [.d (.int .i64 a0.Places), .d (eL (some 3) eapi_Item a0.L), .d (.int .i64 a0.Lost)]))) 1 (some (.var [.d (.int .i64 0), .d (eL (some 3) eapi_Item []), .d (.int .i64 0)])))) (n' := 2) rfl ?_
    refine step (v := .d (.int .i64 0)) rfl ?_
    exact RunOps.nil' (Norm.mk [0, 1] (by decide) (by decide) (by decide) ⟨.ptr 0 _ _ (show 0 < 2 by decide), .d _, .ptr 1 _ _ (show 1 < 2 by decide), trivial⟩ ⟨⟨show 0 < 2 by decide, _, rfl, .vars ⟨.d _, .d _, .d _, trivial⟩⟩, ⟨show 1 < 2 by decide, _, rfl, .vars ⟨.d _, .d _, .d _, trivial⟩⟩, trivial⟩)
  refine NWp.seq ?_
  refine NWp.opsJ ⟨tab [(2, .ptr 0 0 0), (3, .d (.cptr (some 3) (eapi_Item a1) 0)), (4, .ptr 1 0 0), (11, .d (.bool (decide ((a0.L.length : Int) ≥ a0.Places))))], stab [(0, .var [.d (.int .i64 a0.Places), .d (eL (some 3) eapi_Item a0.L), .d (.int .i64 a0.Lost)]), (1, .var [.d (.int .i64 0), .d (eL (some 3) eapi_Item []), .d (.int .i64 0)])], 2⟩ ?_ ?_
  · refine step (v := .ptr 0 0 1) rfl ?_
    refine step (v := .d (eL (some 3) eapi_Item a0.L)) rfl ?_
    refine step (v := .d (.int .i64 (a0.L.length : Int))) (st_len (xs := a0.L) (e := eapi_Item) rfl) ?_
    refine step (v := .ptr 0 0 0) rfl ?_
    refine step (v := .d (.int .i64 a0.Places)) rfl ?_
    refine step (v := .d (.bool (decide ((a0.L.length : Int) ≥ a0.Places)))) rfl ?_
    exact RunOps.nil' (Norm.mk [0, 1] (by decide) (by decide) (by decide) ⟨.ptr 0 _ _ (show 0 < 2 by decide), .d _, .ptr 1 _ _ (show 1 < 2 by decide), .d _, trivial⟩ ⟨⟨show 0 < 2 by decide, _, rfl, .vars ⟨.d _, .d _, .d _, trivial⟩⟩, ⟨show 1 < 2 by decide, _, rfl, .vars ⟨.d _, .d _, .d _, trivial⟩⟩, trivial⟩)
  by_cases hc1 : decide ((a0.L.length : Int) ≥ a0.Places) = true
  · replace h := iteT hc1 h
    refine NWp.condT (t := decide ((a0.L.length : Int) ≥ a0.Places)) rfl hc1 ?_
    refine NWp.opsJ ⟨tab [(2, .ptr 0 0 0), (4, .ptr 1 0 0)], stab [(0, .var [.d (.int .i64 a0.Places), .d (eL (some 3) eapi_Item a0.L), .d (.int .i64 (IntKind.i64.wrap (a0.Lost + 1)))]), (1, .var [.d (.int .i64 0), .d (eL (some 3) eapi_Item []), .d (.int .i64 0)])], 2⟩ ?_ ?_
    · refine step (v := .ptr 0 0 2) rfl ?_
      refine step (v := .d (.int .i64 a0.Lost)) rfl ?_
      refine step (v := .d (.int .i64 (IntKind.i64.wrap (a0.Lost + 1)))) rfl ?_
      refine step (v := .ptr 0 0 2) rfl ?_
      refine step (v := V.undef) (σ' := (upd (stab [(0, .var [.d (.int .i64 a0.Places), .d (eL (some 3) eapi_Item a0.L), .d (.int .i64 a0.Lost)]), (1, .var [.d (.int .i64 0), .d (eL (some 3) eapi_Item []), .d (.int .i64 0)])]) 0 (some (.var [.d (.int .i64 a0.Places), .d (eL (some 3) eapi_Item a0.L), .d (.int .i64 (IntKind.i64.wrap (a0.Lost + 1)))])))) (n' := 2) rfl ?_
      exact RunOps.nil' (Norm.mk [0, 1] (by decide) (by decide) (by decide) ⟨.ptr 0 _ _ (show 0 < 2 by decide), .ptr 1 _ _ (show 1 < 2 by decide), trivial⟩ ⟨⟨show 0 < 2 by decide, _, rfl, .vars ⟨.d _, .d _, .d _, trivial⟩⟩, ⟨show 1 < 2 by decide, _, rfl, .vars ⟨.d _, .d _, .d _, trivial⟩⟩, trivial⟩)
    refine NWp.opsJ ⟨tab [(4, .ptr 0 0 0), (5, .d (.int .i64 32))], stab [(0, .var [.d (.int .i64 a0.Places), .d (eL (some 3) eapi_Item a0.L), .d (.int .i64 (IntKind.i64.wrap (a0.Lost + 1)))])], 1⟩ ?_ ?_
    · refine step (v := .d (eref16_Queue (ref16_Queue.mk a0.Places a0.L (IntKind.i64.wrap (a0.Lost + 1))))) (st_ldV (ds := [.int .i64 a0.Places, eL (some 3) eapi_Item a0.L, .int .i64 (IntKind.i64.wrap (a0.Lost + 1))]) rfl rfl (show 3 ≤ 3 by decide) rfl) ?_
      refine step (v := V.undef) (σ' := (upd (stab [(0, .var [.d (.int .i64 a0.Places), .d (eL (some 3) eapi_Item a0.L), .d (.int .i64 (IntKind.i64.wrap (a0.Lost + 1)))]), (1, .var [.d (.int .i64 0), .d (eL (some 3) eapi_Item []), .d (.int .i64 0)])]) 1 (some (.var [.d (.int .i64 a0.Places), .d (eL (some 3) eapi_Item a0.L), .d (.int .i64 (IntKind.i64.wrap (a0.Lost + 1)))])))) (n' := 2) rfl ?_
      refine step (v := .d (.int .i64 32)) rfl ?_
      exact RunOps.nil' (Norm.mk [1] (by decide) (by decide) (by decide) ⟨.ptr 0 _ _ (show 0 < 1 by decide), .d _, trivial⟩ ⟨⟨show 0 < 1 by decide, _, rfl, .vars ⟨.d _, .d _, .d _, trivial⟩⟩, trivial⟩)
    have hh := Option.some.inj h
    subst hh
    refine NWp.ret ?_
    show FQ _ _ _ _
    exact FQ.mkT (.inr rfl) (res_cell (ds := [.int .i64 a0.Places, eL (some 3) eapi_Item a0.L, .int .i64 (IntKind.i64.wrap (a0.Lost + 1))]) rfl rfl (show 3 ≤ 3 by decide) rfl (res_t (v := .d (.int .i64 32)) rfl rfl)) (RV.d (RV.d trivial))
  · replace h := iteF hc1 h
    refine NWp.condF (t := decide ((a0.L.length : Int) ≥ a0.Places)) rfl hc1 ?_
    refine NWp.skip ?_
    obtain ⟨l2, hl2, h⟩ := bindE h
    obtain ⟨l3, hl3, h⟩ := bindE h
    refine NWp.opsSJ ⟨tab [(2, .ptr 0 0 0), (4, .ptr 2 0 0)], stab [(0, .var [.d (.int .i64 a0.Places), .loc 1 0 l3.length, .d (.int .i64 a0.Lost)]), (1, .lst false (some 3) (List.map eapi_Item l3)), (2, .var [.d (.int .i64 0), .d (eL (some 3) eapi_Item []), .d (.int .i64 0)])], 3⟩ ?_ ?_
    · refine stepL [] [] (v := .loc 2 0 (([] : List api_Item).length)) (σ' := (upd (stab [(0, .var [.d (.int .i64 a0.Places), .d (eL (some 3) eapi_Item a0.L), .d (.int .i64 a0.Lost)]), (1, .var [.d (.int .i64 0), .d (eL (some 3) eapi_Item []), .d (.int .i64 0)])]) 2 (some (.lst false (some 3) (List.map eapi_Item ([] : List api_Item)))))) (n' := 3) rfl rfl rfl ?_
      refine stepL [] [] (v := .ptr 0 0 1) rfl rfl rfl ?_
      refine stepL [0] [] (v := .d (eL (some 3) eapi_Item a0.L)) rfl rfl rfl ?_
      refine stepL [2] [2] (v := .loc 3 0 l2.length) (σ' := (upd (upd (upd (stab [(0, .var [.d (.int .i64 a0.Places), .d (eL (some 3) eapi_Item a0.L), .d (.int .i64 a0.Lost)]), (1, .var [.d (.int .i64 0), .d (eL (some 3) eapi_Item []), .d (.int .i64 0)])]) 2 (some (.lst false (some 3) (List.map eapi_Item ([] : List api_Item))))) 2 none) 3 (some (.lst false (some 3) (List.map eapi_Item l2))))) (n' := 4) (st_app (xs := ([] : List api_Item)) (ys := a0.L) (e := eapi_Item) hl2 rfl rfl rfl (src_v (xs := a0.L) (e := eapi_Item) rfl)) rfl rfl ?_
      refine stepL [] [] (v := .d (eapi_Item a1)) rfl rfl rfl ?_
      refine stepL [] [] (v := .d (eL (some 3) eapi_Item ([a1] : List api_Item))) rfl rfl rfl ?_
      refine stepL [3] [3] (v := .loc 4 0 l3.length) (σ' := (upd (upd (upd (upd (upd (stab [(0, .var [.d (.int .i64 a0.Places), .d (eL (some 3) eapi_Item a0.L), .d (.int .i64 a0.Lost)]), (1, .var [.d (.int .i64 0), .d (eL (some 3) eapi_Item []), .d (.int .i64 0)])]) 2 (some (.lst false (some 3) (List.map eapi_Item ([] : List api_Item))))) 2 none) 3 (some (.lst false (some 3) (List.map eapi_Item l2)))) 3 none) 4 (some (.lst false (some 3) (List.map eapi_Item l3))))) (n' := 5) (st_app (xs := l2) (ys := ([a1] : List api_Item)) (e := eapi_Item) hl3 rfl rfl rfl (src_v (xs := ([a1] : List api_Item)) (e := eapi_Item) rfl)) rfl rfl ?_
      refine stepL [] [] (v := .ptr 0 0 1) rfl rfl rfl ?_
      refine stepL [0] [0] (v := V.undef) (σ' := (upd (upd (upd (upd (upd (upd (stab [(0, .var [.d (.int .i64 a0.Places), .d (eL (some 3) eapi_Item a0.L), .d (.int .i64 a0.Lost)]), (1, .var [.d (.int .i64 0), .d (eL (some 3) eapi_Item []), .d (.int .i64 0)])]) 2 (some (.lst false (some 3) (List.map eapi_Item ([] : List api_Item))))) 2 none) 3 (some (.lst false (some 3) (List.map eapi_Item l2)))) 3 none) 4 (some (.lst false (some 3) (List.map eapi_Item l3)))) 0 (some (.var [.d (.int .i64 a0.Places), .loc 4 0 l3.length, .d (.int .i64 a0.Lost)])))) (n' := 5) rfl rfl rfl ?_
      exact RunOpsL.nil' ⟨by decide, Norm.mk [0, 4, 1] (by decide) (by decide) (by decide) ⟨.ptr 0 _ _ (show 0 < 3 by decide), .ptr 2 _ _ (show 2 < 3 by decide), trivial⟩ ⟨⟨show 0 < 3 by decide, _, rfl, .vars ⟨.d _, .loc 1 _ _ (show 1 < 3 by decide), .d _, trivial⟩⟩, ⟨show 1 < 3 by decide, _, rfl, .lst _ _ _⟩, ⟨show 2 < 3 by decide, _, rfl, .vars ⟨.d _, .d _, .d _, trivial⟩⟩, trivial⟩⟩
    refine NWp.opsJ ⟨tab [(4, .ptr 0 0 0), (5, .d (.int .i64 0))], stab [(0, .var [.d (.int .i64 a0.Places), .loc 1 0 l3.length, .d (.int .i64 a0.Lost)]), (1, .lst false (some 3) (List.map eapi_Item l3))], 2⟩ ?_ ?_
    · refine step (v := .agg [.d (.int .i64 a0.Places), .loc 1 0 l3.length, .d (.int .i64 a0.Lost)]) rfl ?_
      refine step (v := V.undef) (σ' := (upd (stab [(0, .var [.d (.int .i64 a0.Places), .loc 1 0 l3.length, .d (.int .i64 a0.Lost)]), (1, .lst false (some 3) (List.map eapi_Item l3)), (2, .var [.d (.int .i64 0), .d (eL (some 3) eapi_Item []), .d (.int .i64 0)])]) 2 (some (.var [.d (.int .i64 a0.Places), .loc 1 0 l3.length, .d (.int .i64 a0.Lost)])))) (n' := 3) rfl ?_
      refine step (v := .d (.int .i64 0)) rfl ?_
      exact RunOps.nil' (Norm.mk [2, 1] (by decide) (by decide) (by decide) ⟨.ptr 0 _ _ (show 0 < 2 by decide), .d _, trivial⟩ ⟨⟨show 0 < 2 by decide, _, rfl, .vars ⟨.d _, .loc 1 _ _ (show 1 < 2 by decide), .d _, trivial⟩⟩, ⟨show 1 < 2 by decide, _, rfl, .lst _ _ _⟩, trivial⟩)
    have hh := Option.some.inj h
    subst hh
    refine NWp.ret ?_
    show FQ _ _ _ _
    exact FQ.mkT (.inr rfl) rfl (RV.agg (RV0.d (RV0.loc (xs := l3) (e := eapi_Item) rfl rfl (RV0.d trivial))) (RV.d trivial))

theorem c_ref16_Queue_Pop {a0 : ref16_Queue} {r : (ref16_Queue × api_Item × Bool)} (h : ref16_Queue_Pop a0 = some r) : PCall Try.prog 16 [eref16_Queue a0] (.tup [eref16_Queue r.1, eapi_Item r.2.1, .bool r.2.2]) := by
  refine PCall.introN ok16 (show 1 ≤ 22 by decide) ?_
  refine NWp.norm (s0 := ⟨tab [(0, .d (eref16_Queue a0))], stab [], 0⟩) (Norm.mk [] (by decide) (by decide) (by decide) ⟨.d _, trivial⟩ trivial) ?_
  refine NWp.opsJ ⟨tab [(1, .ptr 0 0 0), (2, .ptr 1 0 0), (3, .ptr 2 0 0)], stab [(0, .var [.d (.int .i64 a0.Places), .d (eL (some 3) eapi_Item a0.L), .d (.int .i64 a0.Lost)]), (1, .var [.d (.int .i64 0), .d (eL (some 3) eapi_Item []), .d (.int .i64 0)]), (2, .var [.d (.int .u16 0), .d (.str (⟨#[]⟩ : ByteArray)), .d (.int .i64 0)])], 3⟩ ?_ ?_
  · refine step (v := .ptr 0 0 0) (σ' := (upd (stab []) 0 (some (.var [.d (.int .i64 a0.Places), .d (eL (some 3) eapi_Item a0.L), .d (.int .i64 a0.Lost)])))) (n' := 1) rfl ?_
    refine step (v := .ptr 1 0 0) (σ' := (upd (upd (stab []) 0 (some (.var [.d (.int .i64 a0.Places), .d (eL (some 3) eapi_Item a0.L), .d (.int .i64 a0.Lost)]))) 1 (some (.var [.d (.int .i64 0), .d (eL (some 3) eapi_Item []), .d (.int .i64 0)])))) (n' := 2) rfl ?_
    refine step (v := .ptr 2 0 0) (σ' := (upd (upd (upd (stab []) 0 (some (.var [.d (.int .i64 a0.Places), .d (eL (some 3) eapi_Item a0.L), .d (.int .i64 a0.Lost)]))) 1 (some (.var [.d (.int .i64 0), .d (eL (some 3) eapi_Item []), .d (.int .i64 0)]))) 2 (some (.var [.d (.int .u16 0), .d (.str (⟨#[]⟩ : ByteArray)), .d (.int .i64 0)])))) (n' := 3) rfl ?_
    refine step (v := .d (.bool false)) rfl ?_
    exact RunOps.nil' (Norm.mk [0, 1, 2] (by decide) (by decide) (by decide) ⟨.ptr 0 _ _ (show 0 < 3 by decide), .ptr 1 _ _ (show 1 < 3 by decide), .ptr 2 _ _ (show 2 < 3 by decide), trivial⟩ ⟨⟨show 0 < 3 by decide, _, rfl, .vars ⟨.d _, .d _, .d _, trivial⟩⟩, ⟨show 1 < 3 by decide, _, rfl, .vars ⟨.d _, .d _, .d _, trivial⟩⟩, ⟨show 2 < 3 by decide, _, rfl, .vars ⟨.d _, .d _, .d _, trivial⟩⟩, trivial⟩)
  refine NWp.seq ?_
  refine NWp.opsJ ⟨tab [(1, .ptr 0 0 0), (2, .ptr 1 0 0), (3, .ptr 2 0 0), (9, .d (.bool ((a0.L.length : Int) == 0)))], stab [(0, .var [.d (.int .i64 a0.Places), .d (eL (some 3) eapi_Item a0.L), .d (.int .i64 a0.Lost)]), (1, .var [.d (.int .i64 0), .d (eL (some 3) eapi_Item []), .d (.int .i64 0)]), (2, .var [.d (.int .u16 0), .d (.str (⟨#[]⟩ : ByteArray)), .d (.int .i64 0)])], 3⟩ ?_ ?_
  · refine step (v := .ptr 0 0 1) rfl ?_
    refine step (v := .d (eL (some 3) eapi_Item a0.L)) rfl ?_
    refine step (v := .d (.int .i64 (a0.L.length : Int))) (st_len (xs := a0.L) (e := eapi_Item) rfl) ?_
    refine step (v := .d (.bool ((a0.L.length : Int) == 0))) rfl ?_
    exact RunOps.nil' (Norm.mk [0, 1, 2] (by decide) (by decide) (by decide) ⟨.ptr 0 _ _ (show 0 < 3 by decide), .ptr 1 _ _ (show 1 < 3 by decide), .ptr 2 _ _ (show 2 < 3 by decide), .d _, trivial⟩ ⟨⟨show 0 < 3 by decide, _, rfl, .vars ⟨.d _, .d _, .d _, trivial⟩⟩, ⟨show 1 < 3 by decide, _, rfl, .vars ⟨.d _, .d _, .d _, trivial⟩⟩, ⟨show 2 < 3 by decide, _, rfl, .vars ⟨.d _, .d _, .d _, trivial⟩⟩, trivial⟩)
  by_cases hc1 : ((a0.L.length : Int) == 0) = true
  · replace h := iteT hc1 h
    refine NWp.condT (t := ((a0.L.length : Int) == 0)) rfl hc1 ?_
    refine NWp.opsJ ⟨tab [(2, .ptr 0 0 0), (3, .ptr 1 0 0), (4, .d (.bool false))], stab [(0, .var [.d (.int .i64 a0.Places), .d (eL (some 3) eapi_Item a0.L), .d (.int .i64 a0.Lost)]), (1, .var [.d (.int .u16 0), .d (.str (⟨#[]⟩ : ByteArray)), .d (.int .i64 0)])], 2⟩ ?_ ?_
    · refine step (v := .d (eref16_Queue a0)) (st_ldV (ds := [.int .i64 a0.Places, eL (some 3) eapi_Item a0.L, .int .i64 a0.Lost]) rfl rfl (show 3 ≤ 3 by decide) rfl) ?_
      refine step (v := .d (eapi_Item (api_Item.mk 0 (⟨#[]⟩ : ByteArray) 0))) (st_build (ds := [.int .u16 0, .str (⟨#[]⟩ : ByteArray), .int .i64 0]) rfl) ?_
      refine step (v := V.undef) (σ' := (upd (stab [(0, .var [.d (.int .i64 a0.Places), .d (eL (some 3) eapi_Item a0.L), .d (.int .i64 a0.Lost)]), (1, .var [.d (.int .i64 0), .d (eL (some 3) eapi_Item []), .d (.int .i64 0)]), (2, .var [.d (.int .u16 0), .d (.str (⟨#[]⟩ : ByteArray)), .d (.int .i64 0)])]) 1 (some (.var [.d (.int .i64 a0.Places), .d (eL (some 3) eapi_Item a0.L), .d (.int .i64 a0.Lost)])))) (n' := 3) rfl ?_
      refine step (v := V.undef) (σ' := (upd (upd (stab [(0, .var [.d (.int .i64 a0.Places), .d (eL (some 3) eapi_Item a0.L), .d (.int .i64 a0.Lost)]), (1, .var [.d (.int .i64 0), .d (eL (some 3) eapi_Item []), .d (.int .i64 0)]), (2, .var [.d (.int .u16 0), .d (.str (⟨#[]⟩ : ByteArray)), .d (.int .i64 0)])]) 1 (some (.var [.d (.int .i64 a0.Places), .d (eL (some 3) eapi_Item a0.L), .d (.int .i64 a0.Lost)]))) 2 (some (.var [.d (.int .u16 0), .d (.str (⟨#[]⟩ : ByteArray)), .d (.int .i64 0)])))) (n' := 3) rfl ?_
      refine step (v := .d (.bool false)) rfl ?_
      exact RunOps.nil' (Norm.mk [1, 2] (by decide) (by decide) (by decide) ⟨.ptr 0 _ _ (show 0 < 2 by decide), .ptr 1 _ _ (show 1 < 2 by decide), .d _, trivial⟩ ⟨⟨show 0 < 2 by decide, _, rfl, .vars ⟨.d _, .d _, .d _, trivial⟩⟩, ⟨show 1 < 2 by decide, _, rfl, .vars ⟨.d _, .d _, .d _, trivial⟩⟩, trivial⟩)
    have hh := Option.some.inj h
    subst hh
    refine NWp.ret ?_
    show FQ _ _ _ _
    exact FQ.mkT (.inr rfl) (res_cell (ds := [.int .i64 a0.Places, eL (some 3) eapi_Item a0.L, .int .i64 a0.Lost]) rfl rfl (show 3 ≤ 3 by decide) rfl (res_cell (ds := [.int .u16 0, .str (⟨#[]⟩ : ByteArray), .int .i64 0]) rfl rfl (show 3 ≤ 3 by decide) rfl (res_t (v := .d (.bool false)) rfl rfl))) (RV.d (RV.d (RV.d trivial)))
  · replace h := iteF hc1 h
    refine NWp.condF (t := ((a0.L.length : Int) == 0)) rfl hc1 ?_
    refine NWp.skip ?_
    obtain ⟨x2, hx2, h⟩ := bindE h
    refine NWp.opsJ ⟨tab [(1, .ptr 0 0 0), (2, .ptr 1 0 0), (3, .ptr 2 0 0), (5, .ptr 3 0 0)], stab [(0, .var [.d (.int .i64 a0.Places), .d (eL (some 3) eapi_Item a0.L), .d (.int .i64 a0.Lost)]), (1, .var [.d (.int .i64 0), .d (eL (some 3) eapi_Item []), .d (.int .i64 0)]), (2, .var [.d (.int .u16 0), .d (.str (⟨#[]⟩ : ByteArray)), .d (.int .i64 0)]), (3, .var [.d (.int .u16 x2.Pt), .d (.str x2.Raw), .d (.int .i64 x2.N)])], 4⟩ ?_ ?_
    · refine step (v := .ptr 0 0 1) rfl ?_
      refine step (v := .d (eL (some 3) eapi_Item a0.L)) rfl ?_
      refine step (v := .d (.cptr (some 3) (eapi_Item x2) 0)) (st_iaddr (xs := a0.L) (e := eapi_Item) hx2 rfl rfl) ?_
      refine step (v := .d (eapi_Item x2)) rfl ?_
      refine step (v := .ptr 3 0 0) (σ' := (upd (stab [(0, .var [.d (.int .i64 a0.Places), .d (eL (some 3) eapi_Item a0.L), .d (.int .i64 a0.Lost)]), (1, .var [.d (.int .i64 0), .d (eL (some 3) eapi_Item []), .d (.int .i64 0)]), (2, .var [.d (.int .u16 0), .d (.str (⟨#[]⟩ : ByteArray)), .d (.int .i64 0)])]) 3 (some (.var [.d (.int .u16 0), .d (.str (⟨#[]⟩ : ByteArray)), .d (.int .i64 0)])))) (n' := 4) rfl ?_
      refine step (v := V.undef) (σ' := (upd (upd (stab [(0, .var [.d (.int .i64 a0.Places), .d (eL (some 3) eapi_Item a0.L), .d (.int .i64 a0.Lost)]), (1, .var [.d (.int .i64 0), .d (eL (some 3) eapi_Item []), .d (.int .i64 0)]), (2, .var [.d (.int .u16 0), .d (.str (⟨#[]⟩ : ByteArray)), .d (.int .i64 0)])]) 3 (some (.var [.d (.int .u16 0), .d (.str (⟨#[]⟩ : ByteArray)), .d (.int .i64 0)]))) 3 (some (.var [.d (.int .u16 x2.Pt), .d (.str x2.Raw), .d (.int .i64 x2.N)])))) (n' := 4) rfl ?_
      exact RunOps.nil' (Norm.mk [0, 1, 2, 3] (by decide) (by decide) (by decide) ⟨.ptr 0 _ _ (show 0 < 4 by decide), .ptr 1 _ _ (show 1 < 4 by decide), .ptr 2 _ _ (show 2 < 4 by decide), .ptr 3 _ _ (show 3 < 4 by decide), trivial⟩ ⟨⟨show 0 < 4 by decide, _, rfl, .vars ⟨.d _, .d _, .d _, trivial⟩⟩, ⟨show 1 < 4 by decide, _, rfl, .vars ⟨.d _, .d _, .d _, trivial⟩⟩, ⟨show 2 < 4 by decide, _, rfl, .vars ⟨.d _, .d _, .d _, trivial⟩⟩, ⟨show 3 < 4 by decide, _, rfl, .vars ⟨.d _, .d _, .d _, trivial⟩⟩, trivial⟩)
    obtain ⟨l3, hl3, h⟩ := bindE h
    refine NWp.opsJ ⟨tab [(1, .ptr 0 0 0), (2, .ptr 1 0 0), (3, .ptr 2 0 0), (5, .ptr 3 0 0)], stab [(0, .var [.d (.int .i64 a0.Places), .d (eL (some 3) eapi_Item l3), .d (.int .i64 a0.Lost)]), (1, .var [.d (.int .i64 0), .d (eL (some 3) eapi_Item []), .d (.int .i64 0)]), (2, .var [.d (.int .u16 0), .d (.str (⟨#[]⟩ : ByteArray)), .d (.int .i64 0)]), (3, .var [.d (.int .u16 x2.Pt), .d (.str x2.Raw), .d (.int .i64 x2.N)])], 4⟩ ?_ ?_
    · refine step (v := .ptr 0 0 1) rfl ?_
      refine step (v := .d (eL (some 3) eapi_Item a0.L)) rfl ?_
      refine step (v := .d (eL (some 3) eapi_Item l3)) (st_slc (xs := a0.L) (e := eapi_Item) hl3 rfl ⟨_, rfl⟩ rfl) ?_
      refine step (v := .ptr 0 0 1) rfl ?_
      refine step (v := V.undef) (σ' := (upd (stab [(0, .var [.d (.int .i64 a0.Places), .d (eL (some 3) eapi_Item a0.L), .d (.int .i64 a0.Lost)]), (1, .var [.d (.int .i64 0), .d (eL (some 3) eapi_Item []), .d (.int .i64 0)]), (2, .var [.d (.int .u16 0), .d (.str (⟨#[]⟩ : ByteArray)), .d (.int .i64 0)]), (3, .var [.d (.int .u16 x2.Pt), .d (.str x2.Raw), .d (.int .i64 x2.N)])]) 0 (some (.var [.d (.int .i64 a0.Places), .d (eL (some 3) eapi_Item l3), .d (.int .i64 a0.Lost)])))) (n' := 4) rfl ?_
      exact RunOps.nil' (Norm.mk [0, 1, 2, 3] (by decide) (by decide) (by decide) ⟨.ptr 0 _ _ (show 0 < 4 by decide), .ptr 1 _ _ (show 1 < 4 by decide), .ptr 2 _ _ (show 2 < 4 by decide), .ptr 3 _ _ (show 3 < 4 by decide), trivial⟩ ⟨⟨show 0 < 4 by decide, _, rfl, .vars ⟨.d _, .d _, .d _, trivial⟩⟩, ⟨show 1 < 4 by decide, _, rfl, .vars ⟨.d _, .d _, .d _, trivial⟩⟩, ⟨show 2 < 4 by decide, _, rfl, .vars ⟨.d _, .d _, .d _, trivial⟩⟩, ⟨show 3 < 4 by decide, _, rfl, .vars ⟨.d _, .d _, .d _, trivial⟩⟩, trivial⟩)
    refine NWp.opsSJ ⟨tab [(2, .ptr 0 0 0), (3, .ptr 1 0 0), (4, .d (.bool true))], stab [(0, .var [.d (.int .i64 a0.Places), .d (eL (some 3) eapi_Item l3), .d (.int .i64 a0.Lost)]), (1, .var [.d (.int .u16 x2.Pt), .d (.str x2.Raw), .d (.int .i64 x2.N)])], 2⟩ ?_ ?_
    · refine stepL [0] [] (v := .d (eref16_Queue (ref16_Queue.mk a0.Places l3 a0.Lost))) (st_ldV (ds := [.int .i64 a0.Places, eL (some 3) eapi_Item l3, .int .i64 a0.Lost]) rfl rfl (show 3 ≤ 3 by decide) rfl) rfl rfl ?_
      refine stepL [3] [] (v := .d (eapi_Item x2)) (st_ldV (ds := [.int .u16 x2.Pt, .str x2.Raw, .int .i64 x2.N]) rfl rfl (show 3 ≤ 3 by decide) rfl) rfl rfl ?_
      refine stepL [1] [1] (v := V.undef) (σ' := (upd (stab [(0, .var [.d (.int .i64 a0.Places), .d (eL (some 3) eapi_Item l3), .d (.int .i64 a0.Lost)]), (1, .var [.d (.int .i64 0), .d (eL (some 3) eapi_Item []), .d (.int .i64 0)]), (2, .var [.d (.int .u16 0), .d (.str (⟨#[]⟩ : ByteArray)), .d (.int .i64 0)]), (3, .var [.d (.int .u16 x2.Pt), .d (.str x2.Raw), .d (.int .i64 x2.N)])]) 1 (some (.var [.d (.int .i64 a0.Places), .d (eL (some 3) eapi_Item l3), .d (.int .i64 a0.Lost)])))) (n' := 4) rfl rfl rfl ?_
      refine stepL [2] [2] (v := V.undef) (σ' := (upd (upd (stab [(0, .var [.d (.int .i64 a0.Places), .d (eL (some 3) eapi_Item l3), .d (.int .i64 a0.Lost)]), (1, .var [.d (.int .i64 0), .d (eL (some 3) eapi_Item []), .d (.int .i64 0)]), (2, .var [.d (.int .u16 0), .d (.str (⟨#[]⟩ : ByteArray)), .d (.int .i64 0)]), (3, .var [.d (.int .u16 x2.Pt), .d (.str x2.Raw), .d (.int .i64 x2.N)])]) 1 (some (.var [.d (.int .i64 a0.Places), .d (eL (some 3) eapi_Item l3), .d (.int .i64 a0.Lost)]))) 2 (some (.var [.d (.int .u16 x2.Pt), .d (.str x2.Raw), .d (.int .i64 x2.N)])))) (n' := 4) rfl rfl rfl ?_
      refine stepL [] [] (v := .d (.bool true)) rfl rfl rfl ?_
      exact RunOpsL.nil' ⟨by decide, Norm.mk [1, 2] (by decide) (by decide) (by decide) ⟨.ptr 0 _ _ (show 0 < 2 by decide), .ptr 1 _ _ (show 1 < 2 by decide), .d _, trivial⟩ ⟨⟨show 0 < 2 by decide, _, rfl, .vars ⟨.d _, .d _, .d _, trivial⟩⟩, ⟨show 1 < 2 by decide, _, rfl, .vars ⟨.d _, .d _, .d _, trivial⟩⟩, trivial⟩⟩
    have hh := Option.some.inj h
    subst hh
    refine NWp.ret ?_
    show FQ _ _ _ _
    exact FQ.mkT (.inr rfl) (res_cell (ds := [.int .i64 a0.Places, eL (some 3) eapi_Item l3, .int .i64 a0.Lost]) rfl rfl (show 3 ≤ 3 by decide) rfl (res_cell (ds := [.int .u16 x2.Pt, .str x2.Raw, .int .i64 x2.N]) rfl rfl (show 3 ≤ 3 by decide) rfl (res_t (v := .d (.bool true)) rfl rfl))) (RV.d (RV.d (RV.d trivial)))

theorem c_law16_QueueRuns {a0 : Int} {a1 : (List law16_Act)} {r : Bool} (h : law16_QueueRuns a0 a1 = some r) : PCall Try.prog 3 [.int .i64 a0, eL (some 4) elaw16_Act a1] (.bool r) := by
  refine PCall.introN ok3 (show 2 ≤ 137 by decide) ?_
  refine NWp.norm (s0 := ⟨tab [(0, .d (.int .i64 a0)), (1, .d (eL (some 4) elaw16_Act a1))], stab [], 0⟩) (Norm.mk [] (by decide) (by decide) (by decide) ⟨.d _, .d _, trivial⟩ trivial) ?_
  refine NWp.opsJ ⟨tab [(0, .d (.int .i64 a0)), (1, .d (eL (some 4) elaw16_Act a1))], stab [], 0⟩ ?_ ?_
  · refine step (v := .d (.bool false)) rfl ?_
    exact RunOps.nil' (Norm.mk [] (by decide) (by decide) (by decide) ⟨.d _, .d _, trivial⟩ trivial)
  refine NWp.seq ?_
  obtain ⟨r1, hr1, h⟩ := bindE h
  refine NWp.opsJ ⟨tab [(0, .d (.int .i64 a0)), (1, .d (eL (some 4) elaw16_Act a1)), (21, .d (.bool (!r1)))], stab [], 0⟩ ?_ ?_
  · refine stepC (r := .bool r1) ArgsOk.nil' (c_law16_awake hr1) ?_
    refine step (v := .d (.bool (!r1))) rfl ?_
    exact RunOps.nil' (Norm.mk [] (by decide) (by decide) (by decide) ⟨.d _, .d _, .d _, trivial⟩ trivial)
  by_cases hc2 : (!r1) = true
  · replace h := iteT hc2 h
    refine NWp.condT (t := (!r1)) rfl hc2 ?_
    refine NWp.opsJ ⟨tab [(4, .d (.bool false))], stab [], 0⟩ ?_ ?_
    · refine step (v := .d (.bool false)) rfl ?_
      exact RunOps.nil' (Norm.mk [] (by decide) (by decide) (by decide) ⟨.d _, trivial⟩ trivial)
    have hh := Option.some.inj h
    subst hh
    refine NWp.ret ?_
    show FQ _ _ _ _
    exact FQ.mk1 (.inr rfl) (res_t (v := .d (.bool false)) rfl rfl) (RV.d trivial)
  · replace h := iteF hc2 h
    refine NWp.condF (t := (!r1)) rfl hc2 ?_
    refine NWp.skip ?_
    refine NWp.seq ?_
    refine NWp.opsJ ⟨tab [(0, .d (.int .i64 a0)), (1, .d (eL (some 4) elaw16_Act a1)), (24, .d (.bool (decide ((a1.length : Int) > 200))))], stab [], 0⟩ ?_ ?_
    · refine step (v := .d (eL (some 4) elaw16_Act a1)) rfl ?_
      refine step (v := .d (.int .i64 (a1.length : Int))) (st_len (xs := a1) (e := elaw16_Act) rfl) ?_
      refine step (v := .d (.bool (decide ((a1.length : Int) > 200)))) rfl ?_
      exact RunOps.nil' (Norm.mk [] (by decide) (by decide) (by decide) ⟨.d _, .d _, .d _, trivial⟩ trivial)
    by_cases hc3 : decide ((a1.length : Int) > 200) = true
    · replace h := iteT hc3 h
      refine NWp.condT (t := decide ((a1.length : Int) > 200)) rfl hc3 ?_
      refine NWp.opsJ ⟨tab [(4, .d (.bool true))], stab [], 0⟩ ?_ ?_
      · refine step (v := .d (.bool true)) rfl ?_
        exact RunOps.nil' (Norm.mk [] (by decide) (by decide) (by decide) ⟨.d _, trivial⟩ trivial)
      have hh := Option.some.inj h
      subst hh
      refine NWp.ret ?_
      show FQ _ _ _ _
      exact FQ.mk1 (.inr rfl) (res_t (v := .d (.bool true)) rfl rfl) (RV.d trivial)
    · replace h := iteF hc3 h
      refine NWp.condF (t := decide ((a1.length : Int) > 200)) rfl hc3 ?_
      refine NWp.skip ?_
      obtain ⟨r4, hr4, h⟩ := bindE h
      obtain ⟨r5, hr5, h⟩ := bindE h
      refine NWp.opsJ ⟨tab [(1, .d (eL (some 4) elaw16_Act a1)), (5, .ptr 0 0 0), (6, .ptr 2 0 0)], stab [(0, .var [.loc 1 0 r4.ring.length, .d (.int .i64 r4.first), .d (.int .i64 r4.n_), .d (.int .i64 r4.lost)]), (1, .lst true (some 3) (List.map eapi_Item r4.ring)), (2, .var [.d (.int .i64 r5.Places), .d (eL (some 3) eapi_Item r5.L), .d (.int .i64 r5.Lost)])], 3⟩ ?_ ?_
      · refine step (v := .d (.int .i64 a0)) rfl ?_
        refine stepW (v := .ptr 0 0 0) (σ' := (upd (upd (stab []) 1 (some (.lst true (some 3) (List.map eapi_Item r4.ring)))) 0 (some (.var [.loc 1 0 r4.ring.length, .d (.int .i64 r4.first), .d (.int .i64 r4.n_), .d (.int .i64 r4.lost)])))) (n' := 2) (SCall.lift [] (c_queue_New hr4) (show 0 ≤ 2 by decide) (by decide) (show ∀ i ∈ [], i < 0 by decide) (dom_c (show 0 < 2 by decide) (dom_c (show 1 < 2 by decide) dom_n)) (VNs.c (.d _) VNs.nil0) SN.nil0) (show 0 ≤ 2 by decide) ?_
        refine step (v := .d (.int .i64 a0)) rfl ?_
        refine stepC (r := eref16_Queue r5) (ArgsOk.dt ArgsOk.nil') (c_ref16_New hr5) ?_
        refine step (v := .ptr 2 0 0) (σ' := (upd (upd (upd (stab []) 1 (some (.lst true (some 3) (List.map eapi_Item r4.ring)))) 0 (some (.var [.loc 1 0 r4.ring.length, .d (.int .i64 r4.first), .d (.int .i64 r4.n_), .d (.int .i64 r4.lost)]))) 2 (some (.var [.d (.int .i64 0), .d (eL (some 3) eapi_Item []), .d (.int .i64 0)])))) (n' := 3) rfl ?_
        refine step (v := .ptr 0 0 0) rfl ?_
        refine step (v := V.undef) (σ' := (upd (upd (upd (upd (stab []) 1 (some (.lst true (some 3) (List.map eapi_Item r4.ring)))) 0 (some (.var [.loc 1 0 r4.ring.length, .d (.int .i64 r4.first), .d (.int .i64 r4.n_), .d (.int .i64 r4.lost)]))) 2 (some (.var [.d (.int .i64 0), .d (eL (some 3) eapi_Item []), .d (.int .i64 0)]))) 2 (some (.var [.d (.int .i64 r5.Places), .d (eL (some 3) eapi_Item r5.L), .d (.int .i64 r5.Lost)])))) (n' := 3) rfl ?_
        exact RunOps.nil' (Norm.mk [0, 1, 2] (by decide) (by decide) (by decide) ⟨.d _, .ptr 0 _ _ (show 0 < 3 by decide), .ptr 2 _ _ (show 2 < 3 by decide), trivial⟩ ⟨⟨show 0 < 3 by decide, _, rfl, .vars ⟨.loc 1 _ _ (show 1 < 3 by decide), .d _, .d _, .d _, trivial⟩⟩, ⟨show 1 < 3 by decide, _, rfl, .lst _ _ _⟩, ⟨show 2 < 3 by decide, _, rfl, .vars ⟨.d _, .d _, .d _, trivial⟩⟩, trivial⟩)
      refine NWp.seq ?_
      refine NWp.opsJ ⟨tab [(5, .ptr 0 0 0), (6, .ptr 2 0 0), (29, .d (eL (some 4) elaw16_Act a1)), (30, .d (.int .i64 (a1.length : Int))), (31, .d (.int .i64 0))], stab [(0, .var [.loc 1 0 r4.ring.length, .d (.int .i64 r4.first), .d (.int .i64 r4.n_), .d (.int .i64 r4.lost)]), (1, .lst true (some 3) (List.map eapi_Item r4.ring)), (2, .var [.d (.int .i64 r5.Places), .d (eL (some 3) eapi_Item r5.L), .d (.int .i64 r5.Lost)])], 3⟩ ?_ ?_
      · refine step (v := .d (eL (some 4) elaw16_Act a1)) rfl ?_
        refine step (v := .d (.int .i64 (a1.length : Int))) (st_len (xs := a1) (e := elaw16_Act) rfl) ?_
        refine step (v := .d (.int .i64 0)) rfl ?_
        exact RunOps.nil' (Norm.mk [0, 1, 2] (by decide) (by decide) (by decide) ⟨.ptr 0 _ _ (show 0 < 3 by decide), .ptr 2 _ _ (show 2 < 3 by decide), .d _, .d _, .d _, trivial⟩ ⟨⟨show 0 < 3 by decide, _, rfl, .vars ⟨.loc 1 _ _ (show 1 < 3 by decide), .d _, .d _, .d _, trivial⟩⟩, ⟨show 1 < 3 by decide, _, rfl, .lst _ _ _⟩, ⟨show 2 < 3 by decide, _, rfl, .vars ⟨.d _, .d _, .d _, trivial⟩⟩, trivial⟩)
      obtain ⟨q66, hl, h⟩ := bindE h
      refine NWp.block ?_
      refine loop_forR (cntU (a1.length : Int)) (fun (i10 : Int) (qq : ((List api_Item) × Int × Int × Int × ref16_Queue)) => ⟨tab [(5, .ptr 0 0 0), (6, .ptr 2 0 0), (29, .d (eL (some 4) elaw16_Act a1)), (30, .d (.int .i64 (a1.length : Int))), (31, .d (.int .i64 i10))], stab [(0, .var [.loc 1 0 qq.1.length, .d (.int .i64 qq.2.1), .d (.int .i64 qq.2.2.1), .d (.int .i64 qq.2.2.2.1)]), (1, .lst true (some 3) (List.map eapi_Item qq.1)), (2, .var [.d (.int .i64 qq.2.2.2.2.Places), .d (eL (some 3) eapi_Item qq.2.2.2.2.L), .d (.int .i64 qq.2.2.2.2.Lost)])], 3⟩) 0 (fun (qq : ((List api_Item) × Int × Int × Int × ref16_Queue)) => ⟨tab [], stab [], 0⟩) Low low_step (r := r) hl (by unfold Low; omega) ?_ ?_ ?_ ?_
      · rintro i10 ⟨l6, i7, i8, i9, y11⟩ xr16 hinv14 hgo13 h
        show NWp _ _ _ _ _ ⟨tab [(5, .ptr 0 0 0), (6, .ptr 2 0 0), (29, .d (eL (some 4) elaw16_Act a1)), (30, .d (.int .i64 (a1.length : Int))), (31, .d (.int .i64 i10))], stab [(0, .var [.loc 1 0 l6.length, .d (.int .i64 i7), .d (.int .i64 i8), .d (.int .i64 i9)]), (1, .lst true (some 3) (List.map eapi_Item l6)), (2, .var [.d (.int .i64 y11.Places), .d (eL (some 3) eapi_Item y11.L), .d (.int .i64 y11.Lost)])], 3⟩
        have hc15 : decide (i10 < (a1.length : Int)) = true := decide_eq_true hgo13
        refine NWp.opsJ ⟨tab [(5, .ptr 0 0 0), (6, .ptr 2 0 0), (29, .d (eL (some 4) elaw16_Act a1)), (30, .d (.int .i64 (a1.length : Int))), (31, .d (.int .i64 i10)), (32, .d (.bool (decide (i10 < (a1.length : Int)))))], stab [(0, .var [.loc 1 0 l6.length, .d (.int .i64 i7), .d (.int .i64 i8), .d (.int .i64 i9)]), (1, .lst true (some 3) (List.map eapi_Item l6)), (2, .var [.d (.int .i64 y11.Places), .d (eL (some 3) eapi_Item y11.L), .d (.int .i64 y11.Lost)])], 3⟩ ?_ ?_
        · refine step (v := .d (.bool (decide (i10 < (a1.length : Int))))) rfl ?_
          exact RunOps.nil' (Norm.mk [0, 1, 2] (by decide) (by decide) (by decide) ⟨.ptr 0 _ _ (show 0 < 3 by decide), .ptr 2 _ _ (show 2 < 3 by decide), .d _, .d _, .d _, .d _, trivial⟩ ⟨⟨show 0 < 3 by decide, _, rfl, .vars ⟨.loc 1 _ _ (show 1 < 3 by decide), .d _, .d _, .d _, trivial⟩⟩, ⟨show 1 < 3 by decide, _, rfl, .lst _ _ _⟩, ⟨show 2 < 3 by decide, _, rfl, .vars ⟨.d _, .d _, .d _, trivial⟩⟩, trivial⟩)
        refine NWp.rng 30 rfl fun hB12 => ?_
        refine NWp.seq ?_
        refine NWp.condT (t := decide (i10 < (a1.length : Int))) rfl hc15 ?_
        refine NWp.skip ?_
        refine NWp.seq ?_
        refine NWp.block ?_
        obtain ⟨x17, hx17, h⟩ := bindE h
        refine NWp.opsJ ⟨tab [(5, .ptr 0 0 0), (6, .ptr 2 0 0), (8, .ptr 3 0 0), (29, .d (eL (some 4) elaw16_Act a1)), (30, .d (.int .i64 (a1.length : Int))), (31, .d (.int .i64 i10))], stab [(0, .var [.loc 1 0 l6.length, .d (.int .i64 i7), .d (.int .i64 i8), .d (.int .i64 i9)]), (1, .lst true (some 3) (List.map eapi_Item l6)), (2, .var [.d (.int .i64 y11.Places), .d (eL (some 3) eapi_Item y11.L), .d (.int .i64 y11.Lost)]), (3, .var [.d (.int .i64 x17.What), .d (.int .u16 x17.X.Pt), .d (.str x17.X.Raw), .d (.int .i64 x17.X.N)])], 4⟩ ?_ ?_
        · refine step (v := .d (.cptr (some 4) (elaw16_Act x17) 0)) (st_iaddr (xs := a1) (e := elaw16_Act) hx17 rfl rfl) ?_
          refine step (v := .d (elaw16_Act x17)) rfl ?_
          refine step (v := .ptr 3 0 0) (σ' := (upd (stab [(0, .var [.loc 1 0 l6.length, .d (.int .i64 i7), .d (.int .i64 i8), .d (.int .i64 i9)]), (1, .lst true (some 3) (List.map eapi_Item l6)), (2, .var [.d (.int .i64 y11.Places), .d (eL (some 3) eapi_Item y11.L), .d (.int .i64 y11.Lost)])]) 3 (some (.var [.d (.int .i64 0), .d (.int .u16 0), .d (.str (⟨#[]⟩ : ByteArray)), .d (.int .i64 0)])))) (n' := 4) rfl ?_
          refine step (v := V.undef) (σ' := (upd (upd (stab [(0, .var [.loc 1 0 l6.length, .d (.int .i64 i7), .d (.int .i64 i8), .d (.int .i64 i9)]), (1, .lst true (some 3) (List.map eapi_Item l6)), (2, .var [.d (.int .i64 y11.Places), .d (eL (some 3) eapi_Item y11.L), .d (.int .i64 y11.Lost)])]) 3 (some (.var [.d (.int .i64 0), .d (.int .u16 0), .d (.str (⟨#[]⟩ : ByteArray)), .d (.int .i64 0)]))) 3 (some (.var [.d (.int .i64 x17.What), .d (.int .u16 x17.X.Pt), .d (.str x17.X.Raw), .d (.int .i64 x17.X.N)])))) (n' := 4) rfl ?_
          exact RunOps.nil' (Norm.mk [0, 1, 2, 3] (by decide) (by decide) (by decide) ⟨.ptr 0 _ _ (show 0 < 4 by decide), .ptr 2 _ _ (show 2 < 4 by decide), .ptr 3 _ _ (show 3 < 4 by decide), .d _, .d _, .d _, trivial⟩ ⟨⟨show 0 < 4 by decide, _, rfl, .vars ⟨.loc 1 _ _ (show 1 < 4 by decide), .d _, .d _, .d _, trivial⟩⟩, ⟨show 1 < 4 by decide, _, rfl, .lst _ _ _⟩, ⟨show 2 < 4 by decide, _, rfl, .vars ⟨.d _, .d _, .d _, trivial⟩⟩, ⟨show 3 < 4 by decide, _, rfl, .vars ⟨.d _, .d _, .d _, .d _, trivial⟩⟩, trivial⟩)
        refine NWp.seq ?_
        refine NWp.opsJ ⟨tab [(5, .ptr 0 0 0), (6, .ptr 2 0 0), (8, .ptr 3 0 0), (29, .d (eL (some 4) elaw16_Act a1)), (30, .d (.int .i64 (a1.length : Int))), (31, .d (.int .i64 i10)), (39, .d (.bool (decide ((x17.X.Raw.size : Int) > 100))))], stab [(0, .var [.loc 1 0 l6.length, .d (.int .i64 i7), .d (.int .i64 i8), .d (.int .i64 i9)]), (1, .lst true (some 3) (List.map eapi_Item l6)), (2, .var [.d (.int .i64 y11.Places), .d (eL (some 3) eapi_Item y11.L), .d (.int .i64 y11.Lost)]), (3, .var [.d (.int .i64 x17.What), .d (.int .u16 x17.X.Pt), .d (.str x17.X.Raw), .d (.int .i64 x17.X.N)])], 4⟩ ?_ ?_
        · refine step (v := .ptr 3 0 1) rfl ?_
          refine step (v := .ptr 3 0 2) rfl ?_
          refine step (v := .d (.str x17.X.Raw)) rfl ?_
          refine step (v := .d (.int .i64 (x17.X.Raw.size : Int))) rfl ?_
          refine step (v := .d (.bool (decide ((x17.X.Raw.size : Int) > 100)))) rfl ?_
          exact RunOps.nil' (Norm.mk [0, 1, 2, 3] (by decide) (by decide) (by decide) ⟨.ptr 0 _ _ (show 0 < 4 by decide), .ptr 2 _ _ (show 2 < 4 by decide), .ptr 3 _ _ (show 3 < 4 by decide), .d _, .d _, .d _, .d _, trivial⟩ ⟨⟨show 0 < 4 by decide, _, rfl, .vars ⟨.loc 1 _ _ (show 1 < 4 by decide), .d _, .d _, .d _, trivial⟩⟩, ⟨show 1 < 4 by decide, _, rfl, .lst _ _ _⟩, ⟨show 2 < 4 by decide, _, rfl, .vars ⟨.d _, .d _, .d _, trivial⟩⟩, ⟨show 3 < 4 by decide, _, rfl, .vars ⟨.d _, .d _, .d _, .d _, trivial⟩⟩, trivial⟩)
        by_cases hc18 : decide ((x17.X.Raw.size : Int) > 100) = true
        · replace h := iteT hc18 h
          refine NWp.condT (t := decide ((x17.X.Raw.size : Int) > 100)) rfl hc18 ?_
          refine NWp.opsJ ⟨tab [(4, .d (.bool true))], stab [], 0⟩ ?_ ?_
          · refine step (v := .d (.bool true)) rfl ?_
            exact RunOps.nil' (Norm.mk [] (by decide) (by decide) (by decide) ⟨.d _, trivial⟩ trivial)
          obtain ⟨r19, kr19, hr⟩ := mapE (o := some true) (g := Br.ret) h
          subst hr
          have h := kr19
          have hh := Option.some.inj h
          subst hh
          refine NWp.ret ?_
          refine And.intro (fun hn => nomatch hn) ?_
          intro hq
          have hq := hq.symm
          subst hq
          show FQ _ _ _ _
          exact FQ.mk1 (.inr rfl) (res_t (v := .d (.bool true)) rfl rfl) (RV.d trivial)
        · replace h := iteF hc18 h
          refine NWp.condF (t := decide ((x17.X.Raw.size : Int) > 100)) rfl hc18 ?_
          refine NWp.skip ?_
          obtain ⟨q32, hv, h⟩ := bindE h
          refine NWp.seqS (fun (qq : ((List api_Item) × Int × Int × Int × ref16_Queue)) => ⟨tab [(5, .ptr 0 0 0), (6, .ptr 2 0 0), (29, .d (eL (some 4) elaw16_Act a1)), (30, .d (.int .i64 (a1.length : Int))), (31, .d (.int .i64 i10))], stab [(0, .var [.loc 1 0 qq.1.length, .d (.int .i64 qq.2.1), .d (.int .i64 qq.2.2.1), .d (.int .i64 qq.2.2.2.1)]), (1, .lst true (some 3) (List.map eapi_Item qq.1)), (2, .var [.d (.int .i64 qq.2.2.2.2.Places), .d (eL (some 3) eapi_Item qq.2.2.2.2.L), .d (.int .i64 qq.2.2.2.2.Lost)])], 3⟩) (xv := q32) (r := xr16) ?_ ?_ ?_
          · replace h := hv
            refine NWp.opsJ ⟨tab [(5, .ptr 0 0 0), (6, .ptr 2 0 0), (8, .ptr 3 0 0), (29, .d (eL (some 4) elaw16_Act a1)), (30, .d (.int .i64 (a1.length : Int))), (31, .d (.int .i64 i10)), (42, .d (.bool (x17.What == 0)))], stab [(0, .var [.loc 1 0 l6.length, .d (.int .i64 i7), .d (.int .i64 i8), .d (.int .i64 i9)]), (1, .lst true (some 3) (List.map eapi_Item l6)), (2, .var [.d (.int .i64 y11.Places), .d (eL (some 3) eapi_Item y11.L), .d (.int .i64 y11.Lost)]), (3, .var [.d (.int .i64 x17.What), .d (.int .u16 x17.X.Pt), .d (.str x17.X.Raw), .d (.int .i64 x17.X.N)])], 4⟩ ?_ ?_
            · refine step (v := .ptr 3 0 0) rfl ?_
              refine step (v := .d (.int .i64 x17.What)) rfl ?_
              refine step (v := .d (.bool (x17.What == 0))) rfl ?_
              exact RunOps.nil' (Norm.mk [0, 1, 2, 3] (by decide) (by decide) (by decide) ⟨.ptr 0 _ _ (show 0 < 4 by decide), .ptr 2 _ _ (show 2 < 4 by decide), .ptr 3 _ _ (show 3 < 4 by decide), .d _, .d _, .d _, .d _, trivial⟩ ⟨⟨show 0 < 4 by decide, _, rfl, .vars ⟨.loc 1 _ _ (show 1 < 4 by decide), .d _, .d _, .d _, trivial⟩⟩, ⟨show 1 < 4 by decide, _, rfl, .lst _ _ _⟩, ⟨show 2 < 4 by decide, _, rfl, .vars ⟨.d _, .d _, .d _, trivial⟩⟩, ⟨show 3 < 4 by decide, _, rfl, .vars ⟨.d _, .d _, .d _, .d _, trivial⟩⟩, trivial⟩)
            by_cases hc19 : (x17.What == 0) = true
            · replace h := iteT hc19 h
              refine NWp.condT (t := (x17.What == 0)) rfl hc19 ?_
              obtain ⟨r20, hr20, h⟩ := bindE h
              refine NWp.opsJ ⟨tab [(5, .ptr 0 0 0), (6, .ptr 2 0 0), (8, .ptr 3 0 0), (9, .ptr 4 0 0), (10, .d (.int .i64 r20.2)), (29, .d (eL (some 4) elaw16_Act a1)), (30, .d (.int .i64 (a1.length : Int))), (31, .d (.int .i64 i10))], stab [(0, .var [.loc 1 0 l6.length, .d (.int .i64 i7), .d (.int .i64 i8), .d (.int .i64 i9)]), (1, .lst true (some 3) (List.map eapi_Item l6)), (2, .var [.d (.int .i64 y11.Places), .d (eL (some 3) eapi_Item y11.L), .d (.int .i64 y11.Lost)]), (3, .var [.d (.int .i64 x17.What), .d (.int .u16 x17.X.Pt), .d (.str x17.X.Raw), .d (.int .i64 x17.X.N)]), (4, .var [.d (.int .i64 r20.1.Places), .d (eL (some 3) eapi_Item r20.1.L), .d (.int .i64 r20.1.Lost)])], 5⟩ ?_ ?_
              · refine step (v := .d (eref16_Queue y11)) (st_ldV (ds := [.int .i64 y11.Places, eL (some 3) eapi_Item y11.L, .int .i64 y11.Lost]) rfl rfl (show 3 ≤ 3 by decide) rfl) ?_
                refine step (v := .ptr 3 0 1) rfl ?_
                refine step (v := .d (eapi_Item x17.X)) (st_ldV (ds := [.int .u16 x17.X.Pt, .str x17.X.Raw, .int .i64 x17.X.N]) rfl rfl (show 4 ≤ 4 by decide) rfl) ?_
                refine stepC (r := .tup [eref16_Queue r20.1, .int .i64 r20.2]) (ArgsOk.dt (ArgsOk.dt ArgsOk.nil')) (c_ref16_Queue_Push hr20) ?_
                refine step (v := .d (.tup [eref16_Queue r20.1, .int .i64 r20.2])) rfl ?_
                refine step (v := .d (eref16_Queue r20.1)) rfl ?_
                refine step (v := .d (.int .i64 r20.2)) rfl ?_
                refine step (v := .ptr 4 0 0) (σ' := (upd (stab [(0, .var [.loc 1 0 l6.length, .d (.int .i64 i7), .d (.int .i64 i8), .d (.int .i64 i9)]), (1, .lst true (some 3) (List.map eapi_Item l6)), (2, .var [.d (.int .i64 y11.Places), .d (eL (some 3) eapi_Item y11.L), .d (.int .i64 y11.Lost)]), (3, .var [.d (.int .i64 x17.What), .d (.int .u16 x17.X.Pt), .d (.str x17.X.Raw), .d (.int .i64 x17.X.N)])]) 4 (some (.var [.d (.int .i64 0), .d (eL (some 3) eapi_Item []), .d (.int .i64 0)])))) (n' := 5) rfl ?_
                refine step (v := V.undef) (σ' := (upd (upd (stab [(0, .var [.loc 1 0 l6.length, .d (.int .i64 i7), .d (.int .i64 i8), .d (.int .i64 i9)]), (1, .lst true (some 3) (List.map eapi_Item l6)), (2, .var [.d (.int .i64 y11.Places), .d (eL (some 3) eapi_Item y11.L), .d (.int .i64 y11.Lost)]), (3, .var [.d (.int .i64 x17.What), .d (.int .u16 x17.X.Pt), .d (.str x17.X.Raw), .d (.int .i64 x17.X.N)])]) 4 (some (.var [.d (.int .i64 0), .d (eL (some 3) eapi_Item []), .d (.int .i64 0)]))) 4 (some (.var [.d (.int .i64 r20.1.Places), .d (eL (some 3) eapi_Item r20.1.L), .d (.int .i64 r20.1.Lost)])))) (n' := 5) rfl ?_
                refine step (v := .d (.int .i64 r20.2)) rfl ?_
                exact RunOps.nil' (Norm.mk [0, 1, 2, 3, 4] (by decide) (by decide) (by decide) ⟨.ptr 0 _ _ (show 0 < 5 by decide), .ptr 2 _ _ (show 2 < 5 by decide), .ptr 3 _ _ (show 3 < 5 by decide), .ptr 4 _ _ (show 4 < 5 by decide), .d _, .d _, .d _, .d _, trivial⟩ ⟨⟨show 0 < 5 by decide, _, rfl, .vars ⟨.loc 1 _ _ (show 1 < 5 by decide), .d _, .d _, .d _, trivial⟩⟩, ⟨show 1 < 5 by decide, _, rfl, .lst _ _ _⟩, ⟨show 2 < 5 by decide, _, rfl, .vars ⟨.d _, .d _, .d _, trivial⟩⟩, ⟨show 3 < 5 by decide, _, rfl, .vars ⟨.d _, .d _, .d _, .d _, trivial⟩⟩, ⟨show 4 < 5 by decide, _, rfl, .vars ⟨.d _, .d _, .d _, trivial⟩⟩, trivial⟩)
              refine NWp.seq ?_
              obtain ⟨r21, hr21, h⟩ := bindE h
              refine NWp.opsJ ⟨tab [(5, .ptr 0 0 0), (6, .ptr 2 0 0), (9, .ptr 3 0 0), (10, .d (.int .i64 r20.2)), (11, .d (.int .i64 r21.1)), (29, .d (eL (some 4) elaw16_Act a1)), (30, .d (.int .i64 (a1.length : Int))), (31, .d (.int .i64 i10))], stab [(0, .var [.loc 1 0 r21.2.ring.length, .d (.int .i64 r21.2.first), .d (.int .i64 r21.2.n_), .d (.int .i64 r21.2.lost)]), (1, .lst true (some 3) (List.map eapi_Item r21.2.ring)), (2, .var [.d (.int .i64 y11.Places), .d (eL (some 3) eapi_Item y11.L), .d (.int .i64 y11.Lost)]), (3, .var [.d (.int .i64 r20.1.Places), .d (eL (some 3) eapi_Item r20.1.L), .d (.int .i64 r20.1.Lost)])], 4⟩ ?_ ?_
              · refine step (v := .ptr 0 0 0) rfl ?_
                refine step (v := .ptr 3 0 1) rfl ?_
                refine step (v := .d (eapi_Item x17.X)) (st_ldV (ds := [.int .u16 x17.X.Pt, .str x17.X.Raw, .int .i64 x17.X.N]) rfl rfl (show 4 ≤ 4 by decide) rfl) ?_
                refine stepW (v := .d (.int .i64 r21.1)) (σ' := (upd (upd (upd (upd (stab [(0, .var [.loc 1 0 l6.length, .d (.int .i64 i7), .d (.int .i64 i8), .d (.int .i64 i9)]), (1, .lst true (some 3) (List.map eapi_Item l6)), (2, .var [.d (.int .i64 y11.Places), .d (eL (some 3) eapi_Item y11.L), .d (.int .i64 y11.Lost)]), (3, .var [.d (.int .i64 x17.What), .d (.int .u16 x17.X.Pt), .d (.str x17.X.Raw), .d (.int .i64 x17.X.N)]), (4, .var [.d (.int .i64 r20.1.Places), .d (eL (some 3) eapi_Item r20.1.L), .d (.int .i64 r20.1.Lost)])]) 1 none) 0 none) 1 (some (.lst true (some 3) (List.map eapi_Item r21.2.ring)))) 0 (some (.var [.loc 1 0 r21.2.ring.length, .d (.int .i64 r21.2.first), .d (.int .i64 r21.2.n_), .d (.int .i64 r21.2.lost)])))) (n' := 5) (SCall.lift [0, 1] (c_queue_Queue_Push hr21) (show 2 ≤ 2 by decide) (by decide) (show ∀ i ∈ [0, 1], i < 5 by decide) (dom_c (show 0 < 2 by decide) (dom_c (show 1 < 2 by decide) dom_n)) (VNs.c (.ptr 0 _ _ (show 0 < 2 by decide)) (VNs.c (.d _) VNs.nil0)) (SN.c (show 0 < 2 by decide) rfl (.vars (VNs.c (.loc 1 _ _ (show 1 < 2 by decide)) (VNs.c (.d _) (VNs.c (.d _) (VNs.c (.d _) VNs.nil0))))) (SN.c (show 1 < 2 by decide) rfl (.lst _ _ _) SN.nil0))) (show 5 ≤ 5 by decide) ?_
                refine step (v := .d (.int .i64 r21.1)) rfl ?_
                exact RunOps.nil' (Norm.mk [0, 1, 2, 4] (by decide) (by decide) (by decide) ⟨.ptr 0 _ _ (show 0 < 4 by decide), .ptr 2 _ _ (show 2 < 4 by decide), .ptr 3 _ _ (show 3 < 4 by decide), .d _, .d _, .d _, .d _, .d _, trivial⟩ ⟨⟨show 0 < 4 by decide, _, rfl, .vars ⟨.loc 1 _ _ (show 1 < 4 by decide), .d _, .d _, .d _, trivial⟩⟩, ⟨show 1 < 4 by decide, _, rfl, .lst _ _ _⟩, ⟨show 2 < 4 by decide, _, rfl, .vars ⟨.d _, .d _, .d _, trivial⟩⟩, ⟨show 3 < 4 by decide, _, rfl, .vars ⟨.d _, .d _, .d _, trivial⟩⟩, trivial⟩)
              refine NWp.opsJ ⟨tab [(5, .ptr 0 0 0), (6, .ptr 2 0 0), (9, .ptr 3 0 0), (29, .d (eL (some 4) elaw16_Act a1)), (30, .d (.int .i64 (a1.length : Int))), (31, .d (.int .i64 i10)), (56, .d (.bool (r21.1 != r20.2)))], stab [(0, .var [.loc 1 0 r21.2.ring.length, .d (.int .i64 r21.2.first), .d (.int .i64 r21.2.n_), .d (.int .i64 r21.2.lost)]), (1, .lst true (some 3) (List.map eapi_Item r21.2.ring)), (2, .var [.d (.int .i64 y11.Places), .d (eL (some 3) eapi_Item y11.L), .d (.int .i64 y11.Lost)]), (3, .var [.d (.int .i64 r20.1.Places), .d (eL (some 3) eapi_Item r20.1.L), .d (.int .i64 r20.1.Lost)])], 4⟩ ?_ ?_
              · refine step (v := .d (.int .i64 r21.1)) rfl ?_
                refine step (v := .d (.int .i64 r20.2)) rfl ?_
                refine step (v := .d (.bool (r21.1 != r20.2))) rfl ?_
                exact RunOps.nil' (Norm.mk [0, 1, 2, 3] (by decide) (by decide) (by decide) ⟨.ptr 0 _ _ (show 0 < 4 by decide), .ptr 2 _ _ (show 2 < 4 by decide), .ptr 3 _ _ (show 3 < 4 by decide), .d _, .d _, .d _, .d _, trivial⟩ ⟨⟨show 0 < 4 by decide, _, rfl, .vars ⟨.loc 1 _ _ (show 1 < 4 by decide), .d _, .d _, .d _, trivial⟩⟩, ⟨show 1 < 4 by decide, _, rfl, .lst _ _ _⟩, ⟨show 2 < 4 by decide, _, rfl, .vars ⟨.d _, .d _, .d _, trivial⟩⟩, ⟨show 3 < 4 by decide, _, rfl, .vars ⟨.d _, .d _, .d _, trivial⟩⟩, trivial⟩)
              by_cases hc22 : (r21.1 != r20.2) = true
              · replace h := iteT hc22 h
                refine NWp.condT (t := (r21.1 != r20.2)) rfl hc22 ?_
                refine NWp.opsJ ⟨tab [(4, .d (.bool false))], stab [], 0⟩ ?_ ?_
                · refine step (v := .d (.bool false)) rfl ?_
                  exact RunOps.nil' (Norm.mk [] (by decide) (by decide) (by decide) ⟨.d _, trivial⟩ trivial)
                obtain ⟨r23, kr23, hr⟩ := mapE (o := some (Br.ret false)) (g := Sum.inr) h
                subst hr
                have h := kr23
                obtain ⟨r24, kr24, hr⟩ := mapE (o := some false) (g := Br.ret) h
                subst hr
                have h := kr24
                have hh := Option.some.inj h
                subst hh
                refine NWp.ret ?_
                refine And.intro (fun hn => nomatch hn) ?_
                intro hq
                have hq := hq.symm
                subst hq
                refine And.intro (fun hn => nomatch hn) ?_
                intro hq
                have hq := hq.symm
                subst hq
                show FQ _ _ _ _
                exact FQ.mk1 (.inr rfl) (res_t (v := .d (.bool false)) rfl rfl) (RV.d trivial)
              · replace h := iteF hc22 h
                refine NWp.condF (t := (r21.1 != r20.2)) rfl hc22 ?_
                refine NWp.skip ?_
                have hh := Option.some.inj h
                subst hh
                refine NWp.opsE ⟨tab [(5, .ptr 0 0 0), (6, .ptr 2 0 0), (29, .d (eL (some 4) elaw16_Act a1)), (30, .d (.int .i64 (a1.length : Int))), (31, .d (.int .i64 i10))], stab [(0, .var [.loc 1 0 r21.2.ring.length, .d (.int .i64 r21.2.first), .d (.int .i64 r21.2.n_), .d (.int .i64 r21.2.lost)]), (1, .lst true (some 3) (List.map eapi_Item r21.2.ring)), (2, .var [.d (.int .i64 r20.1.Places), .d (eL (some 3) eapi_Item r20.1.L), .d (.int .i64 r20.1.Lost)])], 3⟩ ?_ ?_
                · refine step (v := .d (eref16_Queue r20.1)) (st_ldV (ds := [.int .i64 r20.1.Places, eL (some 3) eapi_Item r20.1.L, .int .i64 r20.1.Lost]) rfl rfl (show 3 ≤ 3 by decide) rfl) ?_
                  refine step (v := V.undef) (σ' := (upd (stab [(0, .var [.loc 1 0 r21.2.ring.length, .d (.int .i64 r21.2.first), .d (.int .i64 r21.2.n_), .d (.int .i64 r21.2.lost)]), (1, .lst true (some 3) (List.map eapi_Item r21.2.ring)), (2, .var [.d (.int .i64 y11.Places), .d (eL (some 3) eapi_Item y11.L), .d (.int .i64 y11.Lost)]), (3, .var [.d (.int .i64 r20.1.Places), .d (eL (some 3) eapi_Item r20.1.L), .d (.int .i64 r20.1.Lost)])]) 2 (some (.var [.d (.int .i64 r20.1.Places), .d (eL (some 3) eapi_Item r20.1.L), .d (.int .i64 r20.1.Lost)])))) (n' := 4) rfl ?_
                  exact RunOps.nil' (Norm.mk [0, 1, 2] (by decide) (by decide) (by decide) ⟨.ptr 0 _ _ (show 0 < 3 by decide), .ptr 2 _ _ (show 2 < 3 by decide), .d _, .d _, .d _, trivial⟩ ⟨⟨show 0 < 3 by decide, _, rfl, .vars ⟨.loc 1 _ _ (show 1 < 3 by decide), .d _, .d _, .d _, trivial⟩⟩, ⟨show 1 < 3 by decide, _, rfl, .lst _ _ _⟩, ⟨show 2 < 3 by decide, _, rfl, .vars ⟨.d _, .d _, .d _, trivial⟩⟩, trivial⟩)
                exact And.intro rfl rfl
            · replace h := iteF hc19 h
              refine NWp.condF (t := (x17.What == 0)) rfl hc19 ?_
              obtain ⟨r23, hr23, h⟩ := bindE h
              refine NWp.opsJ ⟨tab [(5, .ptr 0 0 0), (6, .ptr 2 0 0), (12, .ptr 3 0 0), (13, .ptr 4 0 0), (14, .d (.bool r23.2.2)), (29, .d (eL (some 4) elaw16_Act a1)), (30, .d (.int .i64 (a1.length : Int))), (31, .d (.int .i64 i10))], stab [(0, .var [.loc 1 0 l6.length, .d (.int .i64 i7), .d (.int .i64 i8), .d (.int .i64 i9)]), (1, .lst true (some 3) (List.map eapi_Item l6)), (2, .var [.d (.int .i64 y11.Places), .d (eL (some 3) eapi_Item y11.L), .d (.int .i64 y11.Lost)]), (3, .var [.d (.int .i64 r23.1.Places), .d (eL (some 3) eapi_Item r23.1.L), .d (.int .i64 r23.1.Lost)]), (4, .var [.d (.int .u16 r23.2.1.Pt), .d (.str r23.2.1.Raw), .d (.int .i64 r23.2.1.N)])], 5⟩ ?_ ?_
              · refine step (v := .d (eref16_Queue y11)) (st_ldV (ds := [.int .i64 y11.Places, eL (some 3) eapi_Item y11.L, .int .i64 y11.Lost]) rfl rfl (show 3 ≤ 3 by decide) rfl) ?_
                refine stepC (r := .tup [eref16_Queue r23.1, eapi_Item r23.2.1, .bool r23.2.2]) (ArgsOk.dt ArgsOk.nil') (c_ref16_Queue_Pop hr23) ?_
                refine step (v := .d (.tup [eref16_Queue r23.1, eapi_Item r23.2.1, .bool r23.2.2])) rfl ?_
                refine step (v := .d (eref16_Queue r23.1)) rfl ?_
                refine step (v := .d (eapi_Item r23.2.1)) rfl ?_
                refine step (v := .d (.bool r23.2.2)) rfl ?_
                refine step (v := .ptr 4 0 0) (σ' := (upd (stab [(0, .var [.loc 1 0 l6.length, .d (.int .i64 i7), .d (.int .i64 i8), .d (.int .i64 i9)]), (1, .lst true (some 3) (List.map eapi_Item l6)), (2, .var [.d (.int .i64 y11.Places), .d (eL (some 3) eapi_Item y11.L), .d (.int .i64 y11.Lost)]), (3, .var [.d (.int .i64 x17.What), .d (.int .u16 x17.X.Pt), .d (.str x17.X.Raw), .d (.int .i64 x17.X.N)])]) 4 (some (.var [.d (.int .i64 0), .d (eL (some 3) eapi_Item []), .d (.int .i64 0)])))) (n' := 5) rfl ?_
                refine step (v := .ptr 5 0 0) (σ' := (upd (upd (stab [(0, .var [.loc 1 0 l6.length, .d (.int .i64 i7), .d (.int .i64 i8), .d (.int .i64 i9)]), (1, .lst true (some 3) (List.map eapi_Item l6)), (2, .var [.d (.int .i64 y11.Places), .d (eL (some 3) eapi_Item y11.L), .d (.int .i64 y11.Lost)]), (3, .var [.d (.int .i64 x17.What), .d (.int .u16 x17.X.Pt), .d (.str x17.X.Raw), .d (.int .i64 x17.X.N)])]) 4 (some (.var [.d (.int .i64 0), .d (eL (some 3) eapi_Item []), .d (.int .i64 0)]))) 5 (some (.var [.d (.int .u16 0), .d (.str (⟨#[]⟩ : ByteArray)), .d (.int .i64 0)])))) (n' := 6) rfl ?_
                refine step (v := V.undef) (σ' := (upd (upd (upd (stab [(0, .var [.loc 1 0 l6.length, .d (.int .i64 i7), .d (.int .i64 i8), .d (.int .i64 i9)]), (1, .lst true (some 3) (List.map eapi_Item l6)), (2, .var [.d (.int .i64 y11.Places), .d (eL (some 3) eapi_Item y11.L), .d (.int .i64 y11.Lost)]), (3, .var [.d (.int .i64 x17.What), .d (.int .u16 x17.X.Pt), .d (.str x17.X.Raw), .d (.int .i64 x17.X.N)])]) 4 (some (.var [.d (.int .i64 0), .d (eL (some 3) eapi_Item []), .d (.int .i64 0)]))) 5 (some (.var [.d (.int .u16 0), .d (.str (⟨#[]⟩ : ByteArray)), .d (.int .i64 0)]))) 4 (some (.var [.d (.int .i64 r23.1.Places), .d (eL (some 3) eapi_Item r23.1.L), .d (.int .i64 r23.1.Lost)])))) (n' := 6) rfl ?_
                refine step (v := V.undef) (σ' := (upd (upd (upd (upd (stab [(0, .var [.loc 1 0 l6.length, .d (.int .i64 i7), .d (.int .i64 i8), .d (.int .i64 i9)]), (1, .lst true (some 3) (List.map eapi_Item l6)), (2, .var [.d (.int .i64 y11.Places), .d (eL (some 3) eapi_Item y11.L), .d (.int .i64 y11.Lost)]), (3, .var [.d (.int .i64 x17.What), .d (.int .u16 x17.X.Pt), .d (.str x17.X.Raw), .d (.int .i64 x17.X.N)])]) 4 (some (.var [.d (.int .i64 0), .d (eL (some 3) eapi_Item []), .d (.int .i64 0)]))) 5 (some (.var [.d (.int .u16 0), .d (.str (⟨#[]⟩ : ByteArray)), .d (.int .i64 0)]))) 4 (some (.var [.d (.int .i64 r23.1.Places), .d (eL (some 3) eapi_Item r23.1.L), .d (.int .i64 r23.1.Lost)]))) 5 (some (.var [.d (.int .u16 r23.2.1.Pt), .d (.str r23.2.1.Raw), .d (.int .i64 r23.2.1.N)])))) (n' := 6) rfl ?_
                refine step (v := .d (.bool r23.2.2)) rfl ?_
                exact RunOps.nil' (Norm.mk [0, 1, 2, 4, 5] (by decide) (by decide) (by decide) ⟨.ptr 0 _ _ (show 0 < 5 by decide), .ptr 2 _ _ (show 2 < 5 by decide), .ptr 3 _ _ (show 3 < 5 by decide), .ptr 4 _ _ (show 4 < 5 by decide), .d _, .d _, .d _, .d _, trivial⟩ ⟨⟨show 0 < 5 by decide, _, rfl, .vars ⟨.loc 1 _ _ (show 1 < 5 by decide), .d _, .d _, .d _, trivial⟩⟩, ⟨show 1 < 5 by decide, _, rfl, .lst _ _ _⟩, ⟨show 2 < 5 by decide, _, rfl, .vars ⟨.d _, .d _, .d _, trivial⟩⟩, ⟨show 3 < 5 by decide, _, rfl, .vars ⟨.d _, .d _, .d _, trivial⟩⟩, ⟨show 4 < 5 by decide, _, rfl, .vars ⟨.d _, .d _, .d _, trivial⟩⟩, trivial⟩)
              refine NWp.seq ?_
              obtain ⟨r24, hr24, h⟩ := bindE h
              refine NWp.opsJ ⟨tab [(5, .ptr 0 0 0), (6, .ptr 2 0 0), (12, .ptr 3 0 0), (13, .ptr 4 0 0), (14, .d (.bool r23.2.2)), (15, .ptr 5 0 0), (16, .d (.bool r24.2.1)), (29, .d (eL (some 4) elaw16_Act a1)), (30, .d (.int .i64 (a1.length : Int))), (31, .d (.int .i64 i10))], stab [(0, .var [.loc 1 0 r24.2.2.ring.length, .d (.int .i64 r24.2.2.first), .d (.int .i64 r24.2.2.n_), .d (.int .i64 r24.2.2.lost)]), (1, .lst true (some 3) (List.map eapi_Item r24.2.2.ring)), (2, .var [.d (.int .i64 y11.Places), .d (eL (some 3) eapi_Item y11.L), .d (.int .i64 y11.Lost)]), (3, .var [.d (.int .i64 r23.1.Places), .d (eL (some 3) eapi_Item r23.1.L), .d (.int .i64 r23.1.Lost)]), (4, .var [.d (.int .u16 r23.2.1.Pt), .d (.str r23.2.1.Raw), .d (.int .i64 r23.2.1.N)]), (5, .var [.d (.int .u16 r24.1.Pt), .d (.str r24.1.Raw), .d (.int .i64 r24.1.N)])], 6⟩ ?_ ?_
              · refine step (v := .ptr 0 0 0) rfl ?_
                refine stepW (v := .d (.tup [eapi_Item r24.1, .bool r24.2.1])) (σ' := (upd (upd (upd (upd (stab [(0, .var [.loc 1 0 l6.length, .d (.int .i64 i7), .d (.int .i64 i8), .d (.int .i64 i9)]), (1, .lst true (some 3) (List.map eapi_Item l6)), (2, .var [.d (.int .i64 y11.Places), .d (eL (some 3) eapi_Item y11.L), .d (.int .i64 y11.Lost)]), (3, .var [.d (.int .i64 r23.1.Places), .d (eL (some 3) eapi_Item r23.1.L), .d (.int .i64 r23.1.Lost)]), (4, .var [.d (.int .u16 r23.2.1.Pt), .d (.str r23.2.1.Raw), .d (.int .i64 r23.2.1.N)])]) 1 none) 0 none) 1 (some (.lst true (some 3) (List.map eapi_Item r24.2.2.ring)))) 0 (some (.var [.loc 1 0 r24.2.2.ring.length, .d (.int .i64 r24.2.2.first), .d (.int .i64 r24.2.2.n_), .d (.int .i64 r24.2.2.lost)])))) (n' := 6) (SCall.lift [0, 1] (c_queue_Queue_Pop hr24) (show 2 ≤ 3 by decide) (by decide) (show ∀ i ∈ [0, 1], i < 5 by decide) (dom_c (show 0 < 3 by decide) (dom_c (show 1 < 3 by decide) dom_n)) (VNs.c (.ptr 0 _ _ (show 0 < 2 by decide)) VNs.nil0) (SN.c (show 0 < 2 by decide) rfl (.vars (VNs.c (.loc 1 _ _ (show 1 < 2 by decide)) (VNs.c (.d _) (VNs.c (.d _) (VNs.c (.d _) VNs.nil0))))) (SN.c (show 1 < 2 by decide) rfl (.lst _ _ _) SN.nil0))) (show 5 ≤ 6 by decide) ?_
                refine step (v := .d (.tup [eapi_Item r24.1, .bool r24.2.1])) rfl ?_
                refine step (v := .d (eapi_Item r24.1)) rfl ?_
                refine step (v := .d (.bool r24.2.1)) rfl ?_
                refine step (v := .ptr 6 0 0) (σ' := (upd (upd (upd (upd (upd (stab [(0, .var [.loc 1 0 l6.length, .d (.int .i64 i7), .d (.int .i64 i8), .d (.int .i64 i9)]), (1, .lst true (some 3) (List.map eapi_Item l6)), (2, .var [.d (.int .i64 y11.Places), .d (eL (some 3) eapi_Item y11.L), .d (.int .i64 y11.Lost)]), (3, .var [.d (.int .i64 r23.1.Places), .d (eL (some 3) eapi_Item r23.1.L), .d (.int .i64 r23.1.Lost)]), (4, .var [.d (.int .u16 r23.2.1.Pt), .d (.str r23.2.1.Raw), .d (.int .i64 r23.2.1.N)])]) 1 none) 0 none) 1 (some (.lst true (some 3) (List.map eapi_Item r24.2.2.ring)))) 0 (some (.var [.loc 1 0 r24.2.2.ring.length, .d (.int .i64 r24.2.2.first), .d (.int .i64 r24.2.2.n_), .d (.int .i64 r24.2.2.lost)]))) 6 (some (.var [.d (.int .u16 0), .d (.str (⟨#[]⟩ : ByteArray)), .d (.int .i64 0)])))) (n' := 7) rfl ?_
                refine step (v := V.undef) (σ' := (upd (upd (upd (upd (upd (upd (stab [(0, .var [.loc 1 0 l6.length, .d (.int .i64 i7), .d (.int .i64 i8), .d (.int .i64 i9)]), (1, .lst true (some 3) (List.map eapi_Item l6)), (2, .var [.d (.int .i64 y11.Places), .d (eL (some 3) eapi_Item y11.L), .d (.int .i64 y11.Lost)]), (3, .var [.d (.int .i64 r23.1.Places), .d (eL (some 3) eapi_Item r23.1.L), .d (.int .i64 r23.1.Lost)]), (4, .var [.d (.int .u16 r23.2.1.Pt), .d (.str r23.2.1.Raw), .d (.int .i64 r23.2.1.N)])]) 1 none) 0 none) 1 (some (.lst true (some 3) (List.map eapi_Item r24.2.2.ring)))) 0 (some (.var [.loc 1 0 r24.2.2.ring.length, .d (.int .i64 r24.2.2.first), .d (.int .i64 r24.2.2.n_), .d (.int .i64 r24.2.2.lost)]))) 6 (some (.var [.d (.int .u16 0), .d (.str (⟨#[]⟩ : ByteArray)), .d (.int .i64 0)]))) 6 (some (.var [.d (.int .u16 r24.1.Pt), .d (.str r24.1.Raw), .d (.int .i64 r24.1.N)])))) (n' := 7) rfl ?_
                refine step (v := .d (.bool r24.2.1)) rfl ?_
                exact RunOps.nil' (Norm.mk [0, 1, 2, 3, 4, 6] (by decide) (by decide) (by decide) ⟨.ptr 0 _ _ (show 0 < 6 by decide), .ptr 2 _ _ (show 2 < 6 by decide), .ptr 3 _ _ (show 3 < 6 by decide), .ptr 4 _ _ (show 4 < 6 by decide), .d _, .ptr 5 _ _ (show 5 < 6 by decide), .d _, .d _, .d _, .d _, trivial⟩ ⟨⟨show 0 < 6 by decide, _, rfl, .vars ⟨.loc 1 _ _ (show 1 < 6 by decide), .d _, .d _, .d _, trivial⟩⟩, ⟨show 1 < 6 by decide, _, rfl, .lst _ _ _⟩, ⟨show 2 < 6 by decide, _, rfl, .vars ⟨.d _, .d _, .d _, trivial⟩⟩, ⟨show 3 < 6 by decide, _, rfl, .vars ⟨.d _, .d _, .d _, trivial⟩⟩, ⟨show 4 < 6 by decide, _, rfl, .vars ⟨.d _, .d _, .d _, trivial⟩⟩, ⟨show 5 < 6 by decide, _, rfl, .vars ⟨.d _, .d _, .d _, trivial⟩⟩, trivial⟩)
              refine NWp.opsJ ⟨tab [(5, .ptr 0 0 0), (6, .ptr 2 0 0), (12, .ptr 3 0 0), (29, .d (eL (some 4) elaw16_Act a1)), (30, .d (.int .i64 (a1.length : Int))), (31, .d (.int .i64 i10)), (76, .d (.bool ((!(r24.2.1 == r23.2.2)) || (!(r23.2.1 == r24.1)))))], stab [(0, .var [.loc 1 0 r24.2.2.ring.length, .d (.int .i64 r24.2.2.first), .d (.int .i64 r24.2.2.n_), .d (.int .i64 r24.2.2.lost)]), (1, .lst true (some 3) (List.map eapi_Item r24.2.2.ring)), (2, .var [.d (.int .i64 y11.Places), .d (eL (some 3) eapi_Item y11.L), .d (.int .i64 y11.Lost)]), (3, .var [.d (.int .i64 r23.1.Places), .d (eL (some 3) eapi_Item r23.1.L), .d (.int .i64 r23.1.Lost)])], 4⟩ ?_ ?_
              · refine step (v := .d (.bool r24.2.1)) rfl ?_
                refine step (v := .d (.bool r23.2.2)) rfl ?_
                refine step (v := .d (.bool (!(r24.2.1 == r23.2.2)))) rfl ?_
                refine step (v := .d (.bool (!(r24.2.1 == r23.2.2)))) rfl ?_
                by_cases hg25 : (!(r24.2.1 == r23.2.2)) = true
                · refine stepX (c := (!(r24.2.1 == r23.2.2))) rfl (by rw [hg25]; decide) ?_
                  refine stepX (c := (!(r24.2.1 == r23.2.2))) rfl (by rw [hg25]; decide) ?_
                  refine stepX (c := (!(r24.2.1 == r23.2.2))) rfl (by rw [hg25]; decide) ?_
                  refine step (v := .d (.bool true)) (st_pickT (b := (!(r24.2.1 == r23.2.2))) rfl hg25 rfl) ?_
                  exact RunOps.nil' (Norm.mk [0, 1, 2, 3] (by decide) (by decide) (by decide) ⟨.ptr 0 _ _ (show 0 < 4 by decide), .ptr 2 _ _ (show 2 < 4 by decide), .ptr 3 _ _ (show 3 < 4 by decide), .d _, .d _, .d _, .eq (by simp [hg25]), trivial⟩ ⟨⟨show 0 < 4 by decide, _, rfl, .vars ⟨.loc 1 _ _ (show 1 < 4 by decide), .d _, .d _, .d _, trivial⟩⟩, ⟨show 1 < 4 by decide, _, rfl, .lst _ _ _⟩, ⟨show 2 < 4 by decide, _, rfl, .vars ⟨.d _, .d _, .d _, trivial⟩⟩, ⟨show 3 < 4 by decide, _, rfl, .vars ⟨.d _, .d _, .d _, trivial⟩⟩, trivial⟩)
                · refine stepG (c := (!(r24.2.1 == r23.2.2))) rfl (Bool.eq_false_iff.2 hg25) ?_
                  refine step (v := .d (eapi_Item r23.2.1)) (st_ldV (ds := [.int .u16 r23.2.1.Pt, .str r23.2.1.Raw, .int .i64 r23.2.1.N]) rfl rfl (show 3 ≤ 3 by decide) rfl) ?_
                  refine stepG (c := (!(r24.2.1 == r23.2.2))) rfl (Bool.eq_false_iff.2 hg25) ?_
                  refine step (v := .d (eapi_Item r24.1)) (st_ldV (ds := [.int .u16 r24.1.Pt, .str r24.1.Raw, .int .i64 r24.1.N]) rfl rfl (show 3 ≤ 3 by decide) rfl) ?_
                  refine stepG (c := (!(r24.2.1 == r23.2.2))) rfl (Bool.eq_false_iff.2 hg25) ?_
                  refine step (v := .d (.bool (!(r23.2.1 == r24.1)))) (st_eqS (neg := true) rfl rfl (eqS_api_Item r23.2.1 r24.1)) ?_
                  refine step (v := .d (.bool (!(r23.2.1 == r24.1)))) (st_pickF (b := (!(r24.2.1 == r23.2.2))) rfl hg25 rfl) ?_
                  exact RunOps.nil' (Norm.mk [0, 1, 2, 3] (by decide) (by decide) (by decide) ⟨.ptr 0 _ _ (show 0 < 4 by decide), .ptr 2 _ _ (show 2 < 4 by decide), .ptr 3 _ _ (show 3 < 4 by decide), .d _, .d _, .d _, .eq (by simp [hg25]), trivial⟩ ⟨⟨show 0 < 4 by decide, _, rfl, .vars ⟨.loc 1 _ _ (show 1 < 4 by decide), .d _, .d _, .d _, trivial⟩⟩, ⟨show 1 < 4 by decide, _, rfl, .lst _ _ _⟩, ⟨show 2 < 4 by decide, _, rfl, .vars ⟨.d _, .d _, .d _, trivial⟩⟩, ⟨show 3 < 4 by decide, _, rfl, .vars ⟨.d _, .d _, .d _, trivial⟩⟩, trivial⟩)
              by_cases hc26 : ((!(r24.2.1 == r23.2.2)) || (!(r23.2.1 == r24.1))) = true
              · replace h := iteT hc26 h
                refine NWp.condT (t := ((!(r24.2.1 == r23.2.2)) || (!(r23.2.1 == r24.1)))) rfl hc26 ?_
                refine NWp.opsJ ⟨tab [(4, .d (.bool false))], stab [], 0⟩ ?_ ?_
                · refine step (v := .d (.bool false)) rfl ?_
                  exact RunOps.nil' (Norm.mk [] (by decide) (by decide) (by decide) ⟨.d _, trivial⟩ trivial)
                obtain ⟨r27, kr27, hr⟩ := mapE (o := some (Br.ret false)) (g := Sum.inr) h
                subst hr
                have h := kr27
                obtain ⟨r28, kr28, hr⟩ := mapE (o := some false) (g := Br.ret) h
                subst hr
                have h := kr28
                have hh := Option.some.inj h
                subst hh
                refine NWp.ret ?_
                refine And.intro (fun hn => nomatch hn) ?_
                intro hq
                have hq := hq.symm
                subst hq
                refine And.intro (fun hn => nomatch hn) ?_
                intro hq
                have hq := hq.symm
                subst hq
                show FQ _ _ _ _
                exact FQ.mk1 (.inr rfl) (res_t (v := .d (.bool false)) rfl rfl) (RV.d trivial)
              · replace h := iteF hc26 h
                refine NWp.condF (t := ((!(r24.2.1 == r23.2.2)) || (!(r23.2.1 == r24.1)))) rfl hc26 ?_
                refine NWp.skip ?_
                have hh := Option.some.inj h
                subst hh
                refine NWp.opsE ⟨tab [(5, .ptr 0 0 0), (6, .ptr 2 0 0), (29, .d (eL (some 4) elaw16_Act a1)), (30, .d (.int .i64 (a1.length : Int))), (31, .d (.int .i64 i10))], stab [(0, .var [.loc 1 0 r24.2.2.ring.length, .d (.int .i64 r24.2.2.first), .d (.int .i64 r24.2.2.n_), .d (.int .i64 r24.2.2.lost)]), (1, .lst true (some 3) (List.map eapi_Item r24.2.2.ring)), (2, .var [.d (.int .i64 r23.1.Places), .d (eL (some 3) eapi_Item r23.1.L), .d (.int .i64 r23.1.Lost)])], 3⟩ ?_ ?_
                · refine step (v := .d (eref16_Queue r23.1)) (st_ldV (ds := [.int .i64 r23.1.Places, eL (some 3) eapi_Item r23.1.L, .int .i64 r23.1.Lost]) rfl rfl (show 3 ≤ 3 by decide) rfl) ?_
                  refine step (v := V.undef) (σ' := (upd (stab [(0, .var [.loc 1 0 r24.2.2.ring.length, .d (.int .i64 r24.2.2.first), .d (.int .i64 r24.2.2.n_), .d (.int .i64 r24.2.2.lost)]), (1, .lst true (some 3) (List.map eapi_Item r24.2.2.ring)), (2, .var [.d (.int .i64 y11.Places), .d (eL (some 3) eapi_Item y11.L), .d (.int .i64 y11.Lost)]), (3, .var [.d (.int .i64 r23.1.Places), .d (eL (some 3) eapi_Item r23.1.L), .d (.int .i64 r23.1.Lost)])]) 2 (some (.var [.d (.int .i64 r23.1.Places), .d (eL (some 3) eapi_Item r23.1.L), .d (.int .i64 r23.1.Lost)])))) (n' := 4) rfl ?_
                  exact RunOps.nil' (Norm.mk [0, 1, 2] (by decide) (by decide) (by decide) ⟨.ptr 0 _ _ (show 0 < 3 by decide), .ptr 2 _ _ (show 2 < 3 by decide), .d _, .d _, .d _, trivial⟩ ⟨⟨show 0 < 3 by decide, _, rfl, .vars ⟨.loc 1 _ _ (show 1 < 3 by decide), .d _, .d _, .d _, trivial⟩⟩, ⟨show 1 < 3 by decide, _, rfl, .lst _ _ _⟩, ⟨show 2 < 3 by decide, _, rfl, .vars ⟨.d _, .d _, .d _, trivial⟩⟩, trivial⟩)
                exact And.intro rfl rfl
          · intro r' hq
            subst hq
            exact Option.some.inj h
          rintro ⟨l27, y28, y29, y30, y31⟩ rfl
          show NWp _ _ _ _ _ ⟨tab [(5, .ptr 0 0 0), (6, .ptr 2 0 0), (29, .d (eL (some 4) elaw16_Act a1)), (30, .d (.int .i64 (a1.length : Int))), (31, .d (.int .i64 i10))], stab [(0, .var [.loc 1 0 l27.length, .d (.int .i64 y28), .d (.int .i64 y29), .d (.int .i64 y30)]), (1, .lst true (some 3) (List.map eapi_Item l27)), (2, .var [.d (.int .i64 y31.Places), .d (eL (some 3) eapi_Item y31.L), .d (.int .i64 y31.Lost)])], 3⟩
          refine NWp.seq ?_
          obtain ⟨r33, hr33, h⟩ := bindE h
          obtain ⟨y36, hv, h⟩ := bindE h
          refine NWp.opsSJ ⟨tab [(5, .ptr 0 0 0), (6, .ptr 2 0 0), (29, .d (eL (some 4) elaw16_Act a1)), (30, .d (.int .i64 (a1.length : Int))), (31, .d (.int .i64 i10)), (90, .d (.bool y36))], stab [(0, .var [.loc 1 0 l27.length, .d (.int .i64 y28), .d (.int .i64 y29), .d (.int .i64 y30)]), (1, .lst true (some 3) (List.map eapi_Item l27)), (2, .var [.d (.int .i64 y31.Places), .d (eL (some 3) eapi_Item y31.L), .d (.int .i64 y31.Lost)])], 3⟩ ?_ ?_
          · refine stepL [] [] (v := .ptr 0 0 0) rfl rfl rfl ?_
            refine stepLW (σ' := (stab [(0, .var [.loc 1 0 l27.length, .d (.int .i64 y28), .d (.int .i64 y29), .d (.int .i64 y30)]), (1, .lst true (some 3) (List.map eapi_Item l27)), (2, .var [.d (.int .i64 y31.Places), .d (eL (some 3) eapi_Item y31.L), .d (.int .i64 y31.Lost)])])) (R := [0, 1]) (W := []) (PCall.fborrow (c_queue_Queue_Len hr33) rfl [(0, .var [.loc 1 0 l27.length, .d (.int .i64 y28), .d (.int .i64 y29), .d (.int .i64 y30)]), (1, .lst true (some 3) (List.map eapi_Item l27))] (ViewsB.c (viewB_var rfl (ViewsB.c (viewB_all (xs := l27) (e := eapi_Item) rfl rfl) (ViewsB.c (.d _) (ViewsB.c (.d _) (ViewsB.c (.d _) ViewsB.nil0))))) ViewsB.nil0)) ⟨rfl, rfl, trivial⟩ rfl rfl rfl ?_
            refine stepL [] [] (v := .ptr 2 0 1) rfl rfl rfl ?_
            refine stepL [2] [] (v := .d (eL (some 3) eapi_Item y31.L)) rfl rfl rfl ?_
            refine stepL [] [] (v := .d (.int .i64 (y31.L.length : Int))) (st_len (xs := y31.L) (e := eapi_Item) rfl) rfl rfl ?_
            refine stepL [] [] (v := .d (.bool (r33 != (y31.L.length : Int)))) rfl rfl rfl ?_
            refine stepL [] [] (v := .d (.bool (r33 != (y31.L.length : Int)))) rfl rfl rfl ?_
            by_cases hg34 : (r33 != (y31.L.length : Int)) = true
            · replace hv := iteT hg34 hv
              refine stepLX (c := (r33 != (y31.L.length : Int))) rfl (by rw [hg34]; decide) ?_
              refine stepLX (c := (r33 != (y31.L.length : Int))) rfl (by rw [hg34]; decide) ?_
              refine stepLX (c := (r33 != (y31.L.length : Int))) rfl (by rw [hg34]; decide) ?_
              refine stepLX (c := (r33 != (y31.L.length : Int))) rfl (by rw [hg34]; decide) ?_
              refine stepLX (c := (r33 != (y31.L.length : Int))) rfl (by rw [hg34]; decide) ?_
              refine stepL [] [] (v := .d (.bool true)) (st_pickT (b := (r33 != (y31.L.length : Int))) rfl hg34 rfl) rfl rfl ?_
              have hh := Option.some.inj hv
              subst hh
              exact RunOpsL.nil' ⟨by decide, Norm.mk [0, 1, 2] (by decide) (by decide) (by decide) ⟨.ptr 0 _ _ (show 0 < 3 by decide), .ptr 2 _ _ (show 2 < 3 by decide), .d _, .d _, .d _, .d _, trivial⟩ ⟨⟨show 0 < 3 by decide, _, rfl, .vars ⟨.loc 1 _ _ (show 1 < 3 by decide), .d _, .d _, .d _, trivial⟩⟩, ⟨show 1 < 3 by decide, _, rfl, .lst _ _ _⟩, ⟨show 2 < 3 by decide, _, rfl, .vars ⟨.d _, .d _, .d _, trivial⟩⟩, trivial⟩⟩
            · replace hv := iteF hg34 hv
              obtain ⟨r35, hr35, hv⟩ := bindE hv
              refine stepLG (c := (r33 != (y31.L.length : Int))) rfl (Bool.eq_false_iff.2 hg34) ?_
              refine stepL [] [] (v := .ptr 0 0 0) rfl rfl rfl ?_
              refine stepLG (c := (r33 != (y31.L.length : Int))) rfl (Bool.eq_false_iff.2 hg34) ?_
              refine stepLW (σ' := (stab [(0, .var [.loc 1 0 l27.length, .d (.int .i64 y28), .d (.int .i64 y29), .d (.int .i64 y30)]), (1, .lst true (some 3) (List.map eapi_Item l27)), (2, .var [.d (.int .i64 y31.Places), .d (eL (some 3) eapi_Item y31.L), .d (.int .i64 y31.Lost)])])) (R := [0, 1]) (W := []) (PCall.fborrow (c_queue_Queue_Lost hr35) rfl [(0, .var [.loc 1 0 l27.length, .d (.int .i64 y28), .d (.int .i64 y29), .d (.int .i64 y30)]), (1, .lst true (some 3) (List.map eapi_Item l27))] (ViewsB.c (viewB_var rfl (ViewsB.c (viewB_all (xs := l27) (e := eapi_Item) rfl rfl) (ViewsB.c (.d _) (ViewsB.c (.d _) (ViewsB.c (.d _) ViewsB.nil0))))) ViewsB.nil0)) ⟨rfl, rfl, trivial⟩ rfl rfl rfl ?_
              refine stepLG (c := (r33 != (y31.L.length : Int))) rfl (Bool.eq_false_iff.2 hg34) ?_
              refine stepL [] [] (v := .ptr 2 0 2) rfl rfl rfl ?_
              refine stepLG (c := (r33 != (y31.L.length : Int))) rfl (Bool.eq_false_iff.2 hg34) ?_
              refine stepL [2] [] (v := .d (.int .i64 y31.Lost)) rfl rfl rfl ?_
              refine stepLG (c := (r33 != (y31.L.length : Int))) rfl (Bool.eq_false_iff.2 hg34) ?_
              refine stepL [] [] (v := .d (.bool (r35 != y31.Lost))) rfl rfl rfl ?_
              refine stepL [] [] (v := .d (.bool (r35 != y31.Lost))) (st_pickF (b := (r33 != (y31.L.length : Int))) rfl hg34 rfl) rfl rfl ?_
              have hh := Option.some.inj hv
              subst hh
              exact RunOpsL.nil' ⟨by decide, Norm.mk [0, 1, 2] (by decide) (by decide) (by decide) ⟨.ptr 0 _ _ (show 0 < 3 by decide), .ptr 2 _ _ (show 2 < 3 by decide), .d _, .d _, .d _, .d _, trivial⟩ ⟨⟨show 0 < 3 by decide, _, rfl, .vars ⟨.loc 1 _ _ (show 1 < 3 by decide), .d _, .d _, .d _, trivial⟩⟩, ⟨show 1 < 3 by decide, _, rfl, .lst _ _ _⟩, ⟨show 2 < 3 by decide, _, rfl, .vars ⟨.d _, .d _, .d _, trivial⟩⟩, trivial⟩⟩
          by_cases hc38 : y36 = true
          · replace h := iteT hc38 h
            refine NWp.condT (t := y36) rfl hc38 ?_
            refine NWp.opsJ ⟨tab [(4, .d (.bool false))], stab [], 0⟩ ?_ ?_
            · refine step (v := .d (.bool false)) rfl ?_
              exact RunOps.nil' (Norm.mk [] (by decide) (by decide) (by decide) ⟨.d _, trivial⟩ trivial)
            obtain ⟨r39, kr39, hr⟩ := mapE (o := some false) (g := Br.ret) h
            subst hr
            have h := kr39
            have hh := Option.some.inj h
            subst hh
            refine NWp.ret ?_
            refine And.intro (fun hn => nomatch hn) ?_
            intro hq
            have hq := hq.symm
            subst hq
            show FQ _ _ _ _
            exact FQ.mk1 (.inr rfl) (res_t (v := .d (.bool false)) rfl rfl) (RV.d trivial)
          · replace h := iteF hc38 h
            refine NWp.condF (t := y36) rfl hc38 ?_
            refine NWp.skip ?_
            refine NWp.opsJ ⟨tab [(5, .ptr 0 0 0), (6, .ptr 2 0 0), (17, .d (.int .i64 (-1))), (29, .d (eL (some 4) elaw16_Act a1)), (30, .d (.int .i64 (a1.length : Int))), (31, .d (.int .i64 i10))], stab [(0, .var [.loc 1 0 l27.length, .d (.int .i64 y28), .d (.int .i64 y29), .d (.int .i64 y30)]), (1, .lst true (some 3) (List.map eapi_Item l27)), (2, .var [.d (.int .i64 y31.Places), .d (eL (some 3) eapi_Item y31.L), .d (.int .i64 y31.Lost)])], 3⟩ ?_ ?_
            · refine step (v := .d (.int .i64 (-1))) rfl ?_
              exact RunOps.nil' (Norm.mk [0, 1, 2] (by decide) (by decide) (by decide) ⟨.ptr 0 _ _ (show 0 < 3 by decide), .ptr 2 _ _ (show 2 < 3 by decide), .d _, .d _, .d _, .d _, trivial⟩ ⟨⟨show 0 < 3 by decide, _, rfl, .vars ⟨.loc 1 _ _ (show 1 < 3 by decide), .d _, .d _, .d _, trivial⟩⟩, ⟨show 1 < 3 by decide, _, rfl, .lst _ _ _⟩, ⟨show 2 < 3 by decide, _, rfl, .vars ⟨.d _, .d _, .d _, trivial⟩⟩, trivial⟩)
            obtain ⟨q60, hl, h⟩ := bindE h
            refine NWp.block ?_
            refine loop_whR (fun (qq : Int) => ⟨tab [(5, .ptr 0 0 0), (6, .ptr 2 0 0), (17, .d (.int .i64 qq)), (29, .d (eL (some 4) elaw16_Act a1)), (30, .d (.int .i64 (a1.length : Int))), (31, .d (.int .i64 i10))], stab [(0, .var [.loc 1 0 l27.length, .d (.int .i64 y28), .d (.int .i64 y29), .d (.int .i64 y30)]), (1, .lst true (some 3) (List.map eapi_Item l27)), (2, .var [.d (.int .i64 y31.Places), .d (eL (some 3) eapi_Item y31.L), .d (.int .i64 y31.Lost)])], 3⟩) 2 (fun (qq : Int) => ⟨tab [(5, .ptr 0 0 0), (6, .ptr 2 0 0), (29, .d (eL (some 4) elaw16_Act a1)), (30, .d (.int .i64 (a1.length : Int))), (31, .d (.int .i64 i10))], stab [(0, .var [.loc 1 0 l27.length, .d (.int .i64 y28), .d (.int .i64 y29), .d (.int .i64 y30)]), (1, .lst true (some 3) (List.map eapi_Item l27)), (2, .var [.d (.int .i64 y31.Places), .d (eL (some 3) eapi_Item y31.L), .d (.int .i64 y31.Lost)])], 3⟩) (r := xr16) hl ?_ ?_ ?_
            · rintro i39 xr40 h
              show NWp _ _ _ _ _ ⟨tab [(5, .ptr 0 0 0), (6, .ptr 2 0 0), (17, .d (.int .i64 i39)), (29, .d (eL (some 4) elaw16_Act a1)), (30, .d (.int .i64 (a1.length : Int))), (31, .d (.int .i64 i10))], stab [(0, .var [.loc 1 0 l27.length, .d (.int .i64 y28), .d (.int .i64 y29), .d (.int .i64 y30)]), (1, .lst true (some 3) (List.map eapi_Item l27)), (2, .var [.d (.int .i64 y31.Places), .d (eL (some 3) eapi_Item y31.L), .d (.int .i64 y31.Lost)])], 3⟩
              refine NWp.seq ?_
              refine NWp.opsJ ⟨tab [(5, .ptr 0 0 0), (6, .ptr 2 0 0), (17, .d (.int .i64 i39)), (29, .d (eL (some 4) elaw16_Act a1)), (30, .d (.int .i64 (a1.length : Int))), (31, .d (.int .i64 i10)), (95, .d (.bool (decide (i39 ≤ (y31.L.length : Int)))))], stab [(0, .var [.loc 1 0 l27.length, .d (.int .i64 y28), .d (.int .i64 y29), .d (.int .i64 y30)]), (1, .lst true (some 3) (List.map eapi_Item l27)), (2, .var [.d (.int .i64 y31.Places), .d (eL (some 3) eapi_Item y31.L), .d (.int .i64 y31.Lost)])], 3⟩ ?_ ?_
              · refine step (v := .d (.int .i64 i39)) rfl ?_
                refine step (v := .ptr 2 0 1) rfl ?_
                refine step (v := .d (eL (some 3) eapi_Item y31.L)) rfl ?_
                refine step (v := .d (.int .i64 (y31.L.length : Int))) (st_len (xs := y31.L) (e := eapi_Item) rfl) ?_
                refine step (v := .d (.bool (decide (i39 ≤ (y31.L.length : Int))))) rfl ?_
                exact RunOps.nil' (Norm.mk [0, 1, 2] (by decide) (by decide) (by decide) ⟨.ptr 0 _ _ (show 0 < 3 by decide), .ptr 2 _ _ (show 2 < 3 by decide), .d _, .d _, .d _, .d _, .d _, trivial⟩ ⟨⟨show 0 < 3 by decide, _, rfl, .vars ⟨.loc 1 _ _ (show 1 < 3 by decide), .d _, .d _, .d _, trivial⟩⟩, ⟨show 1 < 3 by decide, _, rfl, .lst _ _ _⟩, ⟨show 2 < 3 by decide, _, rfl, .vars ⟨.d _, .d _, .d _, trivial⟩⟩, trivial⟩)
              by_cases hc41 : decide (i39 ≤ (y31.L.length : Int)) = true
              · replace h := iteT hc41 h
                refine NWp.condT (t := decide (i39 ≤ (y31.L.length : Int))) rfl hc41 ?_
                refine NWp.skip ?_
                refine NWp.seq ?_
                refine NWp.block ?_
                obtain ⟨r42, hr42, h⟩ := bindE h
                refine NWp.opsJ ⟨tab [(5, .ptr 0 0 0), (6, .ptr 2 0 0), (17, .d (.int .i64 i39)), (18, .ptr 3 0 0), (19, .d (.bool r42.2)), (29, .d (eL (some 4) elaw16_Act a1)), (30, .d (.int .i64 (a1.length : Int))), (31, .d (.int .i64 i10))], stab [(0, .var [.loc 1 0 l27.length, .d (.int .i64 y28), .d (.int .i64 y29), .d (.int .i64 y30)]), (1, .lst true (some 3) (List.map eapi_Item l27)), (2, .var [.d (.int .i64 y31.Places), .d (eL (some 3) eapi_Item y31.L), .d (.int .i64 y31.Lost)]), (3, .var [.d (.int .u16 r42.1.Pt), .d (.str r42.1.Raw), .d (.int .i64 r42.1.N)])], 4⟩ ?_ ?_
                · refine step (v := .ptr 0 0 0) rfl ?_
                  refine step (v := .d (.int .i64 i39)) rfl ?_
                  refine stepW (v := .d (.tup [eapi_Item r42.1, .bool r42.2])) (σ' := _) (n' := _) (PCall.borrow (c_queue_Queue_At hr42) rfl (ViewsB.c (viewB_var rfl (ViewsB.c (viewB_all (xs := l27) (e := eapi_Item) rfl rfl) (ViewsB.c (.d _) (ViewsB.c (.d _) (ViewsB.c (.d _) ViewsB.nil0))))) (ViewsB.c (.d _) ViewsB.nil0))) (Nat.le_refl _) ?_
                  refine step (v := .d (.tup [eapi_Item r42.1, .bool r42.2])) rfl ?_
                  refine step (v := .d (eapi_Item r42.1)) rfl ?_
                  refine step (v := .d (.bool r42.2)) rfl ?_
                  refine step (v := .ptr 3 0 0) (σ' := (upd (stab [(0, .var [.loc 1 0 l27.length, .d (.int .i64 y28), .d (.int .i64 y29), .d (.int .i64 y30)]), (1, .lst true (some 3) (List.map eapi_Item l27)), (2, .var [.d (.int .i64 y31.Places), .d (eL (some 3) eapi_Item y31.L), .d (.int .i64 y31.Lost)])]) 3 (some (.var [.d (.int .u16 0), .d (.str (⟨#[]⟩ : ByteArray)), .d (.int .i64 0)])))) (n' := 4) rfl ?_
                  refine step (v := V.undef) (σ' := (upd (upd (stab [(0, .var [.loc 1 0 l27.length, .d (.int .i64 y28), .d (.int .i64 y29), .d (.int .i64 y30)]), (1, .lst true (some 3) (List.map eapi_Item l27)), (2, .var [.d (.int .i64 y31.Places), .d (eL (some 3) eapi_Item y31.L), .d (.int .i64 y31.Lost)])]) 3 (some (.var [.d (.int .u16 0), .d (.str (⟨#[]⟩ : ByteArray)), .d (.int .i64 0)]))) 3 (some (.var [.d (.int .u16 r42.1.Pt), .d (.str r42.1.Raw), .d (.int .i64 r42.1.N)])))) (n' := 4) rfl ?_
                  refine step (v := .d (.bool r42.2)) rfl ?_
                  exact RunOps.nil' (Norm.mk [0, 1, 2, 3] (by decide) (by decide) (by decide) ⟨.ptr 0 _ _ (show 0 < 4 by decide), .ptr 2 _ _ (show 2 < 4 by decide), .d _, .ptr 3 _ _ (show 3 < 4 by decide), .d _, .d _, .d _, .d _, trivial⟩ ⟨⟨show 0 < 4 by decide, _, rfl, .vars ⟨.loc 1 _ _ (show 1 < 4 by decide), .d _, .d _, .d _, trivial⟩⟩, ⟨show 1 < 4 by decide, _, rfl, .lst _ _ _⟩, ⟨show 2 < 4 by decide, _, rfl, .vars ⟨.d _, .d _, .d _, trivial⟩⟩, ⟨show 3 < 4 by decide, _, rfl, .vars ⟨.d _, .d _, .d _, trivial⟩⟩, trivial⟩)
                obtain ⟨y56, hv, h⟩ := bindE h
                refine NWp.opsJ ⟨tab [(5, .ptr 0 0 0), (6, .ptr 2 0 0), (17, .d (.int .i64 i39)), (29, .d (eL (some 4) elaw16_Act a1)), (30, .d (.int .i64 (a1.length : Int))), (31, .d (.int .i64 i10)), (135, .d (.bool y56))], stab [(0, .var [.loc 1 0 l27.length, .d (.int .i64 y28), .d (.int .i64 y29), .d (.int .i64 y30)]), (1, .lst true (some 3) (List.map eapi_Item l27)), (2, .var [.d (.int .i64 y31.Places), .d (eL (some 3) eapi_Item y31.L), .d (.int .i64 y31.Lost)])], 3⟩ ?_ ?_
                · refine step (v := .d (.bool r42.2)) rfl ?_
                  refine step (v := .d (.int .i64 i39)) rfl ?_
                  refine step (v := .d (.bool (decide (i39 ≥ 0)))) rfl ?_
                  refine step (v := .d (.bool (decide (i39 ≥ 0)))) rfl ?_
                  by_cases hg43 : decide (i39 ≥ 0) = true
                  · replace hv := iteT hg43 hv
                    refine stepG (c := decide (i39 ≥ 0)) rfl hg43 ?_
                    refine step (v := .d (.int .i64 i39)) rfl ?_
                    refine stepG (c := decide (i39 ≥ 0)) rfl hg43 ?_
                    refine step (v := .ptr 2 0 1) rfl ?_
                    refine stepG (c := decide (i39 ≥ 0)) rfl hg43 ?_
                    refine step (v := .d (eL (some 3) eapi_Item y31.L)) rfl ?_
                    refine stepG (c := decide (i39 ≥ 0)) rfl hg43 ?_
                    refine step (v := .d (.int .i64 (y31.L.length : Int))) (st_len (xs := y31.L) (e := eapi_Item) rfl) ?_
                    refine stepG (c := decide (i39 ≥ 0)) rfl hg43 ?_
                    refine step (v := .d (.bool (decide (i39 < (y31.L.length : Int))))) rfl ?_
                    refine step (v := .d (.bool (decide (i39 < (y31.L.length : Int))))) (st_pickT (b := decide (i39 ≥ 0)) rfl hg43 rfl) ?_
                    refine step (v := .d (.bool (!(r42.2 == (decide (i39 < (y31.L.length : Int))))))) rfl ?_
                    refine step (v := .d (.bool (!(r42.2 == (decide (i39 < (y31.L.length : Int))))))) rfl ?_
                    by_cases hg44 : (!(r42.2 == (decide (i39 < (y31.L.length : Int))))) = true
                    · replace hv := iteT hg44 hv
                      refine stepX (c := (!(r42.2 == (decide (i39 < (y31.L.length : Int)))))) rfl (by rw [hg44]; decide) ?_
                      refine stepX (c := (!(r42.2 == (decide (i39 < (y31.L.length : Int)))))) rfl (by rw [hg44]; decide) ?_
                      refine stepXX rfl ?_
                      refine stepXX rfl ?_
                      refine stepXX rfl ?_
                      refine stepXX rfl ?_
                      refine stepXX rfl ?_
                      refine stepXX rfl ?_
                      refine stepXX rfl ?_
                      refine stepX (c := (!(r42.2 == (decide (i39 < (y31.L.length : Int)))))) rfl (by rw [hg44]; decide) ?_
                      refine step (v := .d (.bool true)) (st_pickT (b := (!(r42.2 == (decide (i39 < (y31.L.length : Int)))))) rfl hg44 rfl) ?_
                      refine step (v := .d (.bool true)) rfl ?_
                      refine stepX (c := true) rfl (by decide) ?_
                      refine stepX (c := true) rfl (by decide) ?_
                      refine stepX (c := true) rfl (by decide) ?_
                      refine stepXX rfl ?_
                      refine stepXX rfl ?_
                      refine stepXX rfl ?_
                      refine stepX (c := true) rfl (by decide) ?_
                      refine step (v := .d (.bool true)) (st_pickT (b := true) rfl rfl rfl) ?_
                      have hh := Option.some.inj hv
                      subst hh
                      exact RunOps.nil' (Norm.mk [0, 1, 2] (by decide) (by decide) (by decide) ⟨.ptr 0 _ _ (show 0 < 3 by decide), .ptr 2 _ _ (show 2 < 3 by decide), .d _, .d _, .d _, .d _, .d _, trivial⟩ ⟨⟨show 0 < 3 by decide, _, rfl, .vars ⟨.loc 1 _ _ (show 1 < 3 by decide), .d _, .d _, .d _, trivial⟩⟩, ⟨show 1 < 3 by decide, _, rfl, .lst _ _ _⟩, ⟨show 2 < 3 by decide, _, rfl, .vars ⟨.d _, .d _, .d _, trivial⟩⟩, trivial⟩)
                    · replace hv := iteF hg44 hv
                      refine stepG (c := (!(r42.2 == (decide (i39 < (y31.L.length : Int)))))) rfl (Bool.eq_false_iff.2 hg44) ?_
                      refine step (v := .d (.bool r42.2)) rfl ?_
                      refine stepG (c := (!(r42.2 == (decide (i39 < (y31.L.length : Int)))))) rfl (Bool.eq_false_iff.2 hg44) ?_
                      refine step (v := .d (.bool r42.2)) rfl ?_
                      by_cases hg45 : r42.2 = true
                      · replace hv := iteT hg45 hv
                        obtain ⟨x46, hx46, hv⟩ := bindE hv
                        refine stepG (c := r42.2) rfl hg45 ?_
                        refine step (v := .d (eapi_Item r42.1)) (st_ldV (ds := [.int .u16 r42.1.Pt, .str r42.1.Raw, .int .i64 r42.1.N]) rfl rfl (show 3 ≤ 3 by decide) rfl) ?_
                        refine stepG (c := r42.2) rfl hg45 ?_
                        refine step (v := .ptr 2 0 1) rfl ?_
                        refine stepG (c := r42.2) rfl hg45 ?_
                        refine step (v := .d (eL (some 3) eapi_Item y31.L)) rfl ?_
                        refine stepG (c := r42.2) rfl hg45 ?_
                        refine step (v := .d (.int .i64 i39)) rfl ?_
                        refine stepG (c := r42.2) rfl hg45 ?_
                        refine step (v := .d (.cptr (some 3) (eapi_Item x46) 0)) (st_iaddr (xs := y31.L) (e := eapi_Item) hx46 rfl rfl) ?_
                        refine stepG (c := r42.2) rfl hg45 ?_
                        refine step (v := .d (eapi_Item x46)) rfl ?_
                        refine stepG (c := r42.2) rfl hg45 ?_
                        refine step (v := .d (.bool (!(r42.1 == x46)))) (st_eqS (neg := true) rfl rfl (eqS_api_Item r42.1 x46)) ?_
                        refine stepG (c := (!(r42.2 == (decide (i39 < (y31.L.length : Int)))))) rfl (Bool.eq_false_iff.2 hg44) ?_
                        refine step (v := .d (.bool (!(r42.1 == x46)))) (st_pickT (b := r42.2) rfl hg45 rfl) ?_
                        refine step (v := .d (.bool (!(r42.1 == x46)))) (st_pickF (b := (!(r42.2 == (decide (i39 < (y31.L.length : Int)))))) rfl hg44 rfl) ?_
                        refine step (v := .d (.bool (!(r42.1 == x46)))) rfl ?_
                        by_cases hg47 : (!(r42.1 == x46)) = true
                        · replace hv := iteT hg47 hv
                          refine stepX (c := (!(r42.1 == x46))) rfl (by rw [hg47]; decide) ?_
                          refine stepX (c := (!(r42.1 == x46))) rfl (by rw [hg47]; decide) ?_
                          refine stepX (c := (!(r42.1 == x46))) rfl (by rw [hg47]; decide) ?_
                          refine stepXX rfl ?_
                          refine stepXX rfl ?_
                          refine stepXX rfl ?_
                          refine stepX (c := (!(r42.1 == x46))) rfl (by rw [hg47]; decide) ?_
                          refine step (v := .d (.bool true)) (st_pickT (b := (!(r42.1 == x46))) rfl hg47 rfl) ?_
                          have hh := Option.some.inj hv
                          subst hh
                          exact RunOps.nil' (Norm.mk [0, 1, 2] (by decide) (by decide) (by decide) ⟨.ptr 0 _ _ (show 0 < 3 by decide), .ptr 2 _ _ (show 2 < 3 by decide), .d _, .d _, .d _, .d _, .d _, trivial⟩ ⟨⟨show 0 < 3 by decide, _, rfl, .vars ⟨.loc 1 _ _ (show 1 < 3 by decide), .d _, .d _, .d _, trivial⟩⟩, ⟨show 1 < 3 by decide, _, rfl, .lst _ _ _⟩, ⟨show 2 < 3 by decide, _, rfl, .vars ⟨.d _, .d _, .d _, trivial⟩⟩, trivial⟩)
                        · replace hv := iteF hg47 hv
                          refine stepG (c := (!(r42.1 == x46))) rfl (Bool.eq_false_iff.2 hg47) ?_
                          refine step (v := .d (.bool r42.2)) rfl ?_
                          refine stepG (c := (!(r42.1 == x46))) rfl (Bool.eq_false_iff.2 hg47) ?_
                          refine step (v := .d (.bool (!r42.2))) rfl ?_
                          refine stepG (c := (!(r42.1 == x46))) rfl (Bool.eq_false_iff.2 hg47) ?_
                          refine step (v := .d (.bool (!r42.2))) rfl ?_
                          by_cases hg48 : (!r42.2) = true
                          · replace hv := iteT hg48 hv
                            refine stepG (c := (!r42.2)) rfl hg48 ?_
                            refine step (v := .d (eapi_Item r42.1)) (st_ldV (ds := [.int .u16 r42.1.Pt, .str r42.1.Raw, .int .i64 r42.1.N]) rfl rfl (show 3 ≤ 3 by decide) rfl) ?_
                            refine stepG (c := (!r42.2)) rfl hg48 ?_
                            refine step (v := .d (eapi_Item (api_Item.mk 0 (⟨#[]⟩ : ByteArray) 0))) (st_build (ds := [.int .u16 0, .str (⟨#[]⟩ : ByteArray), .int .i64 0]) rfl) ?_
                            refine stepG (c := (!r42.2)) rfl hg48 ?_
                            refine step (v := .d (.bool (!(r42.1 == (api_Item.mk 0 (⟨#[]⟩ : ByteArray) 0))))) (st_eqS (neg := true) rfl rfl (eqS_api_Item r42.1 (api_Item.mk 0 (⟨#[]⟩ : ByteArray) 0))) ?_
                            refine stepG (c := (!(r42.1 == x46))) rfl (Bool.eq_false_iff.2 hg47) ?_
                            refine step (v := .d (.bool (!(r42.1 == (api_Item.mk 0 (⟨#[]⟩ : ByteArray) 0))))) (st_pickT (b := (!r42.2)) rfl hg48 rfl) ?_
                            refine step (v := .d (.bool (!(r42.1 == (api_Item.mk 0 (⟨#[]⟩ : ByteArray) 0))))) (st_pickF (b := (!(r42.1 == x46))) rfl hg47 rfl) ?_
                            have hh := Option.some.inj hv
                            subst hh
                            exact RunOps.nil' (Norm.mk [0, 1, 2] (by decide) (by decide) (by decide) ⟨.ptr 0 _ _ (show 0 < 3 by decide), .ptr 2 _ _ (show 2 < 3 by decide), .d _, .d _, .d _, .d _, .d _, trivial⟩ ⟨⟨show 0 < 3 by decide, _, rfl, .vars ⟨.loc 1 _ _ (show 1 < 3 by decide), .d _, .d _, .d _, trivial⟩⟩, ⟨show 1 < 3 by decide, _, rfl, .lst _ _ _⟩, ⟨show 2 < 3 by decide, _, rfl, .vars ⟨.d _, .d _, .d _, trivial⟩⟩, trivial⟩)
                          · replace hv := iteF hg48 hv
                            refine stepX (c := (!r42.2)) rfl hg48 ?_
                            refine stepX (c := (!r42.2)) rfl hg48 ?_
                            refine stepX (c := (!r42.2)) rfl hg48 ?_
                            refine stepG (c := (!(r42.1 == x46))) rfl (Bool.eq_false_iff.2 hg47) ?_
                            refine step (v := .d (.bool false)) (st_pickF (b := (!r42.2)) rfl hg48 rfl) ?_
                            refine step (v := .d (.bool false)) (st_pickF (b := (!(r42.1 == x46))) rfl hg47 rfl) ?_
                            have hh := Option.some.inj hv
                            subst hh
                            exact RunOps.nil' (Norm.mk [0, 1, 2] (by decide) (by decide) (by decide) ⟨.ptr 0 _ _ (show 0 < 3 by decide), .ptr 2 _ _ (show 2 < 3 by decide), .d _, .d _, .d _, .d _, .d _, trivial⟩ ⟨⟨show 0 < 3 by decide, _, rfl, .vars ⟨.loc 1 _ _ (show 1 < 3 by decide), .d _, .d _, .d _, trivial⟩⟩, ⟨show 1 < 3 by decide, _, rfl, .lst _ _ _⟩, ⟨show 2 < 3 by decide, _, rfl, .vars ⟨.d _, .d _, .d _, trivial⟩⟩, trivial⟩)
                      · replace hv := iteF hg45 hv
                        refine stepX (c := r42.2) rfl hg45 ?_
                        refine stepX (c := r42.2) rfl hg45 ?_
                        refine stepX (c := r42.2) rfl hg45 ?_
                        refine stepX (c := r42.2) rfl hg45 ?_
                        refine stepX (c := r42.2) rfl hg45 ?_
                        refine stepX (c := r42.2) rfl hg45 ?_
                        refine stepX (c := r42.2) rfl hg45 ?_
                        refine stepG (c := (!(r42.2 == (decide (i39 < (y31.L.length : Int)))))) rfl (Bool.eq_false_iff.2 hg44) ?_
                        refine step (v := .d (.bool false)) (st_pickF (b := r42.2) rfl hg45 rfl) ?_
                        refine step (v := .d (.bool false)) (st_pickF (b := (!(r42.2 == (decide (i39 < (y31.L.length : Int)))))) rfl hg44 rfl) ?_
                        refine step (v := .d (.bool false)) rfl ?_
                        refine stepG (c := false) rfl rfl ?_
                        refine step (v := .d (.bool r42.2)) rfl ?_
                        refine stepG (c := false) rfl rfl ?_
                        refine step (v := .d (.bool (!r42.2))) rfl ?_
                        refine stepG (c := false) rfl rfl ?_
                        refine step (v := .d (.bool (!r42.2))) rfl ?_
                        by_cases hg49 : (!r42.2) = true
                        · replace hv := iteT hg49 hv
                          refine stepG (c := (!r42.2)) rfl hg49 ?_
                          refine step (v := .d (eapi_Item r42.1)) (st_ldV (ds := [.int .u16 r42.1.Pt, .str r42.1.Raw, .int .i64 r42.1.N]) rfl rfl (show 3 ≤ 3 by decide) rfl) ?_
                          refine stepG (c := (!r42.2)) rfl hg49 ?_
                          refine step (v := .d (eapi_Item (api_Item.mk 0 (⟨#[]⟩ : ByteArray) 0))) (st_build (ds := [.int .u16 0, .str (⟨#[]⟩ : ByteArray), .int .i64 0]) rfl) ?_
                          refine stepG (c := (!r42.2)) rfl hg49 ?_
                          refine step (v := .d (.bool (!(r42.1 == (api_Item.mk 0 (⟨#[]⟩ : ByteArray) 0))))) (st_eqS (neg := true) rfl rfl (eqS_api_Item r42.1 (api_Item.mk 0 (⟨#[]⟩ : ByteArray) 0))) ?_
                          refine stepG (c := false) rfl rfl ?_
                          refine step (v := .d (.bool (!(r42.1 == (api_Item.mk 0 (⟨#[]⟩ : ByteArray) 0))))) (st_pickT (b := (!r42.2)) rfl hg49 rfl) ?_
                          refine step (v := .d (.bool (!(r42.1 == (api_Item.mk 0 (⟨#[]⟩ : ByteArray) 0))))) (st_pickF (b := false) rfl (by decide) rfl) ?_
                          have hh := Option.some.inj hv
                          subst hh
                          exact RunOps.nil' (Norm.mk [0, 1, 2] (by decide) (by decide) (by decide) ⟨.ptr 0 _ _ (show 0 < 3 by decide), .ptr 2 _ _ (show 2 < 3 by decide), .d _, .d _, .d _, .d _, .d _, trivial⟩ ⟨⟨show 0 < 3 by decide, _, rfl, .vars ⟨.loc 1 _ _ (show 1 < 3 by decide), .d _, .d _, .d _, trivial⟩⟩, ⟨show 1 < 3 by decide, _, rfl, .lst _ _ _⟩, ⟨show 2 < 3 by decide, _, rfl, .vars ⟨.d _, .d _, .d _, trivial⟩⟩, trivial⟩)
                        · replace hv := iteF hg49 hv
                          refine stepX (c := (!r42.2)) rfl hg49 ?_
                          refine stepX (c := (!r42.2)) rfl hg49 ?_
                          refine stepX (c := (!r42.2)) rfl hg49 ?_
                          refine stepG (c := false) rfl rfl ?_
                          refine step (v := .d (.bool false)) (st_pickF (b := (!r42.2)) rfl hg49 rfl) ?_
                          refine step (v := .d (.bool false)) (st_pickF (b := false) rfl (by decide) rfl) ?_
                          have hh := Option.some.inj hv
                          subst hh
                          exact RunOps.nil' (Norm.mk [0, 1, 2] (by decide) (by decide) (by decide) ⟨.ptr 0 _ _ (show 0 < 3 by decide), .ptr 2 _ _ (show 2 < 3 by decide), .d _, .d _, .d _, .d _, .d _, trivial⟩ ⟨⟨show 0 < 3 by decide, _, rfl, .vars ⟨.loc 1 _ _ (show 1 < 3 by decide), .d _, .d _, .d _, trivial⟩⟩, ⟨show 1 < 3 by decide, _, rfl, .lst _ _ _⟩, ⟨show 2 < 3 by decide, _, rfl, .vars ⟨.d _, .d _, .d _, trivial⟩⟩, trivial⟩)
                  · replace hv := iteF hg43 hv
                    refine stepX (c := decide (i39 ≥ 0)) rfl hg43 ?_
                    refine stepX (c := decide (i39 ≥ 0)) rfl hg43 ?_
                    refine stepX (c := decide (i39 ≥ 0)) rfl hg43 ?_
                    refine stepX (c := decide (i39 ≥ 0)) rfl hg43 ?_
                    refine stepX (c := decide (i39 ≥ 0)) rfl hg43 ?_
                    refine step (v := .d (.bool false)) (st_pickF (b := decide (i39 ≥ 0)) rfl hg43 rfl) ?_
                    refine step (v := .d (.bool (!(r42.2 == false)))) rfl ?_
                    refine step (v := .d (.bool (!(r42.2 == false)))) rfl ?_
                    by_cases hg50 : (!(r42.2 == false)) = true
                    · replace hv := iteT hg50 hv
                      refine stepX (c := (!(r42.2 == false))) rfl (by rw [hg50]; decide) ?_
                      refine stepX (c := (!(r42.2 == false))) rfl (by rw [hg50]; decide) ?_
                      refine stepXX rfl ?_
                      refine stepXX rfl ?_
                      refine stepXX rfl ?_
                      refine stepXX rfl ?_
                      refine stepXX rfl ?_
                      refine stepXX rfl ?_
                      refine stepXX rfl ?_
                      refine stepX (c := (!(r42.2 == false))) rfl (by rw [hg50]; decide) ?_
                      refine step (v := .d (.bool true)) (st_pickT (b := (!(r42.2 == false))) rfl hg50 rfl) ?_
                      refine step (v := .d (.bool true)) rfl ?_
                      refine stepX (c := true) rfl (by decide) ?_
                      refine stepX (c := true) rfl (by decide) ?_
                      refine stepX (c := true) rfl (by decide) ?_
                      refine stepXX rfl ?_
                      refine stepXX rfl ?_
                      refine stepXX rfl ?_
                      refine stepX (c := true) rfl (by decide) ?_
                      refine step (v := .d (.bool true)) (st_pickT (b := true) rfl rfl rfl) ?_
                      have hh := Option.some.inj hv
                      subst hh
                      exact RunOps.nil' (Norm.mk [0, 1, 2] (by decide) (by decide) (by decide) ⟨.ptr 0 _ _ (show 0 < 3 by decide), .ptr 2 _ _ (show 2 < 3 by decide), .d _, .d _, .d _, .d _, .d _, trivial⟩ ⟨⟨show 0 < 3 by decide, _, rfl, .vars ⟨.loc 1 _ _ (show 1 < 3 by decide), .d _, .d _, .d _, trivial⟩⟩, ⟨show 1 < 3 by decide, _, rfl, .lst _ _ _⟩, ⟨show 2 < 3 by decide, _, rfl, .vars ⟨.d _, .d _, .d _, trivial⟩⟩, trivial⟩)
                    · replace hv := iteF hg50 hv
                      refine stepG (c := (!(r42.2 == false))) rfl (Bool.eq_false_iff.2 hg50) ?_
                      refine step (v := .d (.bool r42.2)) rfl ?_
                      refine stepG (c := (!(r42.2 == false))) rfl (Bool.eq_false_iff.2 hg50) ?_
                      refine step (v := .d (.bool r42.2)) rfl ?_
                      by_cases hg51 : r42.2 = true
                      · replace hv := iteT hg51 hv
                        obtain ⟨x52, hx52, hv⟩ := bindE hv
                        refine stepG (c := r42.2) rfl hg51 ?_
                        refine step (v := .d (eapi_Item r42.1)) (st_ldV (ds := [.int .u16 r42.1.Pt, .str r42.1.Raw, .int .i64 r42.1.N]) rfl rfl (show 3 ≤ 3 by decide) rfl) ?_
                        refine stepG (c := r42.2) rfl hg51 ?_
                        refine step (v := .ptr 2 0 1) rfl ?_
                        refine stepG (c := r42.2) rfl hg51 ?_
                        refine step (v := .d (eL (some 3) eapi_Item y31.L)) rfl ?_
                        refine stepG (c := r42.2) rfl hg51 ?_
                        refine step (v := .d (.int .i64 i39)) rfl ?_
                        refine stepG (c := r42.2) rfl hg51 ?_
                        refine step (v := .d (.cptr (some 3) (eapi_Item x52) 0)) (st_iaddr (xs := y31.L) (e := eapi_Item) hx52 rfl rfl) ?_
                        refine stepG (c := r42.2) rfl hg51 ?_
                        refine step (v := .d (eapi_Item x52)) rfl ?_
                        refine stepG (c := r42.2) rfl hg51 ?_
                        refine step (v := .d (.bool (!(r42.1 == x52)))) (st_eqS (neg := true) rfl rfl (eqS_api_Item r42.1 x52)) ?_
                        refine stepG (c := (!(r42.2 == false))) rfl (Bool.eq_false_iff.2 hg50) ?_
                        refine step (v := .d (.bool (!(r42.1 == x52)))) (st_pickT (b := r42.2) rfl hg51 rfl) ?_
                        refine step (v := .d (.bool (!(r42.1 == x52)))) (st_pickF (b := (!(r42.2 == false))) rfl hg50 rfl) ?_
                        refine step (v := .d (.bool (!(r42.1 == x52)))) rfl ?_
                        by_cases hg53 : (!(r42.1 == x52)) = true
                        · replace hv := iteT hg53 hv
                          refine stepX (c := (!(r42.1 == x52))) rfl (by rw [hg53]; decide) ?_
                          refine stepX (c := (!(r42.1 == x52))) rfl (by rw [hg53]; decide) ?_
                          refine stepX (c := (!(r42.1 == x52))) rfl (by rw [hg53]; decide) ?_
                          refine stepXX rfl ?_
                          refine stepXX rfl ?_
                          refine stepXX rfl ?_
                          refine stepX (c := (!(r42.1 == x52))) rfl (by rw [hg53]; decide) ?_
                          refine step (v := .d (.bool true)) (st_pickT (b := (!(r42.1 == x52))) rfl hg53 rfl) ?_
                          have hh := Option.some.inj hv
                          subst hh
                          exact RunOps.nil' (Norm.mk [0, 1, 2] (by decide) (by decide) (by decide) ⟨.ptr 0 _ _ (show 0 < 3 by decide), .ptr 2 _ _ (show 2 < 3 by decide), .d _, .d _, .d _, .d _, .d _, trivial⟩ ⟨⟨show 0 < 3 by decide, _, rfl, .vars ⟨.loc 1 _ _ (show 1 < 3 by decide), .d _, .d _, .d _, trivial⟩⟩, ⟨show 1 < 3 by decide, _, rfl, .lst _ _ _⟩, ⟨show 2 < 3 by decide, _, rfl, .vars ⟨.d _, .d _, .d _, trivial⟩⟩, trivial⟩)
                        · replace hv := iteF hg53 hv
                          refine stepG (c := (!(r42.1 == x52))) rfl (Bool.eq_false_iff.2 hg53) ?_
                          refine step (v := .d (.bool r42.2)) rfl ?_
                          refine stepG (c := (!(r42.1 == x52))) rfl (Bool.eq_false_iff.2 hg53) ?_
                          refine step (v := .d (.bool (!r42.2))) rfl ?_
                          refine stepG (c := (!(r42.1 == x52))) rfl (Bool.eq_false_iff.2 hg53) ?_
                          refine step (v := .d (.bool (!r42.2))) rfl ?_
                          by_cases hg54 : (!r42.2) = true
                          · replace hv := iteT hg54 hv
                            refine stepG (c := (!r42.2)) rfl hg54 ?_
                            refine step (v := .d (eapi_Item r42.1)) (st_ldV (ds := [.int .u16 r42.1.Pt, .str r42.1.Raw, .int .i64 r42.1.N]) rfl rfl (show 3 ≤ 3 by decide) rfl) ?_
                            refine stepG (c := (!r42.2)) rfl hg54 ?_
                            refine step (v := .d (eapi_Item (api_Item.mk 0 (⟨#[]⟩ : ByteArray) 0))) (st_build (ds := [.int .u16 0, .str (⟨#[]⟩ : ByteArray), .int .i64 0]) rfl) ?_
                            refine stepG (c := (!r42.2)) rfl hg54 ?_
                            refine step (v := .d (.bool (!(r42.1 == (api_Item.mk 0 (⟨#[]⟩ : ByteArray) 0))))) (st_eqS (neg := true) rfl rfl (eqS_api_Item r42.1 (api_Item.mk 0 (⟨#[]⟩ : ByteArray) 0))) ?_
                            refine stepG (c := (!(r42.1 == x52))) rfl (Bool.eq_false_iff.2 hg53) ?_
                            refine step (v := .d (.bool (!(r42.1 == (api_Item.mk 0 (⟨#[]⟩ : ByteArray) 0))))) (st_pickT (b := (!r42.2)) rfl hg54 rfl) ?_
                            refine step (v := .d (.bool (!(r42.1 == (api_Item.mk 0 (⟨#[]⟩ : ByteArray) 0))))) (st_pickF (b := (!(r42.1 == x52))) rfl hg53 rfl) ?_
                            have hh := Option.some.inj hv
                            subst hh
                            exact RunOps.nil' (Norm.mk [0, 1, 2] (by decide) (by decide) (by decide) ⟨.ptr 0 _ _ (show 0 < 3 by decide), .ptr 2 _ _ (show 2 < 3 by decide), .d _, .d _, .d _, .d _, .d _, trivial⟩ ⟨⟨show 0 < 3 by decide, _, rfl, .vars ⟨.loc 1 _ _ (show 1 < 3 by decide), .d _, .d _, .d _, trivial⟩⟩, ⟨show 1 < 3 by decide, _, rfl, .lst _ _ _⟩, ⟨show 2 < 3 by decide, _, rfl, .vars ⟨.d _, .d _, .d _, trivial⟩⟩, trivial⟩)
                          · replace hv := iteF hg54 hv
                            refine stepX (c := (!r42.2)) rfl hg54 ?_
                            refine stepX (c := (!r42.2)) rfl hg54 ?_
                            refine stepX (c := (!r42.2)) rfl hg54 ?_
                            refine stepG (c := (!(r42.1 == x52))) rfl (Bool.eq_false_iff.2 hg53) ?_
                            refine step (v := .d (.bool false)) (st_pickF (b := (!r42.2)) rfl hg54 rfl) ?_
                            refine step (v := .d (.bool false)) (st_pickF (b := (!(r42.1 == x52))) rfl hg53 rfl) ?_
                            have hh := Option.some.inj hv
                            subst hh
                            exact RunOps.nil' (Norm.mk [0, 1, 2] (by decide) (by decide) (by decide) ⟨.ptr 0 _ _ (show 0 < 3 by decide), .ptr 2 _ _ (show 2 < 3 by decide), .d _, .d _, .d _, .d _, .d _, trivial⟩ ⟨⟨show 0 < 3 by decide, _, rfl, .vars ⟨.loc 1 _ _ (show 1 < 3 by decide), .d _, .d _, .d _, trivial⟩⟩, ⟨show 1 < 3 by decide, _, rfl, .lst _ _ _⟩, ⟨show 2 < 3 by decide, _, rfl, .vars ⟨.d _, .d _, .d _, trivial⟩⟩, trivial⟩)
                      · replace hv := iteF hg51 hv
                        refine stepX (c := r42.2) rfl hg51 ?_
                        refine stepX (c := r42.2) rfl hg51 ?_
                        refine stepX (c := r42.2) rfl hg51 ?_
                        refine stepX (c := r42.2) rfl hg51 ?_
                        refine stepX (c := r42.2) rfl hg51 ?_
                        refine stepX (c := r42.2) rfl hg51 ?_
                        refine stepX (c := r42.2) rfl hg51 ?_
                        refine stepG (c := (!(r42.2 == false))) rfl (Bool.eq_false_iff.2 hg50) ?_
                        refine step (v := .d (.bool false)) (st_pickF (b := r42.2) rfl hg51 rfl) ?_
                        refine step (v := .d (.bool false)) (st_pickF (b := (!(r42.2 == false))) rfl hg50 rfl) ?_
                        refine step (v := .d (.bool false)) rfl ?_
                        refine stepG (c := false) rfl rfl ?_
                        refine step (v := .d (.bool r42.2)) rfl ?_
                        refine stepG (c := false) rfl rfl ?_
                        refine step (v := .d (.bool (!r42.2))) rfl ?_
                        refine stepG (c := false) rfl rfl ?_
                        refine step (v := .d (.bool (!r42.2))) rfl ?_
                        by_cases hg55 : (!r42.2) = true
                        · replace hv := iteT hg55 hv
                          refine stepG (c := (!r42.2)) rfl hg55 ?_
                          refine step (v := .d (eapi_Item r42.1)) (st_ldV (ds := [.int .u16 r42.1.Pt, .str r42.1.Raw, .int .i64 r42.1.N]) rfl rfl (show 3 ≤ 3 by decide) rfl) ?_
                          refine stepG (c := (!r42.2)) rfl hg55 ?_
                          refine step (v := .d (eapi_Item (api_Item.mk 0 (⟨#[]⟩ : ByteArray) 0))) (st_build (ds := [.int .u16 0, .str (⟨#[]⟩ : ByteArray), .int .i64 0]) rfl) ?_
                          refine stepG (c := (!r42.2)) rfl hg55 ?_
                          refine step (v := .d (.bool (!(r42.1 == (api_Item.mk 0 (⟨#[]⟩ : ByteArray) 0))))) (st_eqS (neg := true) rfl rfl (eqS_api_Item r42.1 (api_Item.mk 0 (⟨#[]⟩ : ByteArray) 0))) ?_
                          refine stepG (c := false) rfl rfl ?_
                          refine step (v := .d (.bool (!(r42.1 == (api_Item.mk 0 (⟨#[]⟩ : ByteArray) 0))))) (st_pickT (b := (!r42.2)) rfl hg55 rfl) ?_
                          refine step (v := .d (.bool (!(r42.1 == (api_Item.mk 0 (⟨#[]⟩ : ByteArray) 0))))) (st_pickF (b := false) rfl (by decide) rfl) ?_
                          have hh := Option.some.inj hv
                          subst hh
                          exact RunOps.nil' (Norm.mk [0, 1, 2] (by decide) (by decide) (by decide) ⟨.ptr 0 _ _ (show 0 < 3 by decide), .ptr 2 _ _ (show 2 < 3 by decide), .d _, .d _, .d _, .d _, .d _, trivial⟩ ⟨⟨show 0 < 3 by decide, _, rfl, .vars ⟨.loc 1 _ _ (show 1 < 3 by decide), .d _, .d _, .d _, trivial⟩⟩, ⟨show 1 < 3 by decide, _, rfl, .lst _ _ _⟩, ⟨show 2 < 3 by decide, _, rfl, .vars ⟨.d _, .d _, .d _, trivial⟩⟩, trivial⟩)
                        · replace hv := iteF hg55 hv
                          refine stepX (c := (!r42.2)) rfl hg55 ?_
                          refine stepX (c := (!r42.2)) rfl hg55 ?_
                          refine stepX (c := (!r42.2)) rfl hg55 ?_
                          refine stepG (c := false) rfl rfl ?_
                          refine step (v := .d (.bool false)) (st_pickF (b := (!r42.2)) rfl hg55 rfl) ?_
                          refine step (v := .d (.bool false)) (st_pickF (b := false) rfl (by decide) rfl) ?_
                          have hh := Option.some.inj hv
                          subst hh
                          exact RunOps.nil' (Norm.mk [0, 1, 2] (by decide) (by decide) (by decide) ⟨.ptr 0 _ _ (show 0 < 3 by decide), .ptr 2 _ _ (show 2 < 3 by decide), .d _, .d _, .d _, .d _, .d _, trivial⟩ ⟨⟨show 0 < 3 by decide, _, rfl, .vars ⟨.loc 1 _ _ (show 1 < 3 by decide), .d _, .d _, .d _, trivial⟩⟩, ⟨show 1 < 3 by decide, _, rfl, .lst _ _ _⟩, ⟨show 2 < 3 by decide, _, rfl, .vars ⟨.d _, .d _, .d _, trivial⟩⟩, trivial⟩)
                by_cases hc58 : y56 = true
                · replace h := iteT hc58 h
                  refine NWp.condT (t := y56) rfl hc58 ?_
                  refine NWp.opsJ ⟨tab [(4, .d (.bool false))], stab [], 0⟩ ?_ ?_
                  · refine step (v := .d (.bool false)) rfl ?_
                    exact RunOps.nil' (Norm.mk [] (by decide) (by decide) (by decide) ⟨.d _, trivial⟩ trivial)
                  obtain ⟨r59, kr59, hr⟩ := mapE (o := some (Br.ret false)) (g := Br.ret) h
                  subst hr
                  have h := kr59
                  obtain ⟨r60, kr60, hr⟩ := mapE (o := some false) (g := Br.ret) h
                  subst hr
                  have h := kr60
                  have hh := Option.some.inj h
                  subst hh
                  refine NWp.ret ?_
                  refine And.intro (fun hn => nomatch hn) ?_
                  intro hq
                  have hq := hq.symm
                  subst hq
                  refine And.intro (fun hn => nomatch hn) ?_
                  intro hq
                  have hq := hq.symm
                  subst hq
                  show FQ _ _ _ _
                  exact FQ.mk1 (.inr rfl) (res_t (v := .d (.bool false)) rfl rfl) (RV.d trivial)
                · replace h := iteF hc58 h
                  refine NWp.condF (t := y56) rfl hc58 ?_
                  refine NWp.skip ?_
                  have hh := Option.some.inj h
                  subst hh
                  refine NWp.opsE ⟨tab [(5, .ptr 0 0 0), (6, .ptr 2 0 0), (17, .d (.int .i64 (IntKind.i64.wrap (i39 + 1)))), (29, .d (eL (some 4) elaw16_Act a1)), (30, .d (.int .i64 (a1.length : Int))), (31, .d (.int .i64 i10))], stab [(0, .var [.loc 1 0 l27.length, .d (.int .i64 y28), .d (.int .i64 y29), .d (.int .i64 y30)]), (1, .lst true (some 3) (List.map eapi_Item l27)), (2, .var [.d (.int .i64 y31.Places), .d (eL (some 3) eapi_Item y31.L), .d (.int .i64 y31.Lost)])], 3⟩ ?_ ?_
                  · refine step (v := .d (.int .i64 i39)) rfl ?_
                    refine step (v := .d (.int .i64 (IntKind.i64.wrap (i39 + 1)))) rfl ?_
                    refine step (v := .d (.int .i64 (IntKind.i64.wrap (i39 + 1)))) rfl ?_
                    exact RunOps.nil' (Norm.mk [0, 1, 2] (by decide) (by decide) (by decide) ⟨.ptr 0 _ _ (show 0 < 3 by decide), .ptr 2 _ _ (show 2 < 3 by decide), .d _, .d _, .d _, .d _, trivial⟩ ⟨⟨show 0 < 3 by decide, _, rfl, .vars ⟨.loc 1 _ _ (show 1 < 3 by decide), .d _, .d _, .d _, trivial⟩⟩, ⟨show 1 < 3 by decide, _, rfl, .lst _ _ _⟩, ⟨show 2 < 3 by decide, _, rfl, .vars ⟨.d _, .d _, .d _, trivial⟩⟩, trivial⟩)
                  exact And.intro rfl rfl
              · replace h := iteF hc41 h
                refine NWp.condF (t := decide (i39 ≤ (y31.L.length : Int))) rfl hc41 ?_
                have hh := Option.some.inj h
                subst hh
                refine NWp.norm (s0 := ⟨tab [(5, .ptr 0 0 0), (6, .ptr 2 0 0), (29, .d (eL (some 4) elaw16_Act a1)), (30, .d (.int .i64 (a1.length : Int))), (31, .d (.int .i64 i10))], stab [(0, .var [.loc 1 0 l27.length, .d (.int .i64 y28), .d (.int .i64 y29), .d (.int .i64 y30)]), (1, .lst true (some 3) (List.map eapi_Item l27)), (2, .var [.d (.int .i64 y31.Places), .d (eL (some 3) eapi_Item y31.L), .d (.int .i64 y31.Lost)])], 3⟩) (Norm.mk [0, 1, 2] (by decide) (by decide) (by decide) ⟨.ptr 0 _ _ (show 0 < 3 by decide), .ptr 2 _ _ (show 2 < 3 by decide), .d _, .d _, .d _, trivial⟩ ⟨⟨show 0 < 3 by decide, _, rfl, .vars ⟨.loc 1 _ _ (show 1 < 3 by decide), .d _, .d _, .d _, trivial⟩⟩, ⟨show 1 < 3 by decide, _, rfl, .lst _ _ _⟩, ⟨show 2 < 3 by decide, _, rfl, .vars ⟨.d _, .d _, .d _, trivial⟩⟩, trivial⟩) ?_
                refine NWp.exit ?_
                exact And.intro rfl rfl
            · intro r' hq
              subst hq
              exact Option.some.inj h
            rintro z59 rfl
            have hh := Option.some.inj h
            subst hh
            refine NWp.opsE ⟨tab [(5, .ptr 0 0 0), (6, .ptr 2 0 0), (29, .d (eL (some 4) elaw16_Act a1)), (30, .d (.int .i64 (a1.length : Int))), (31, .d (.int .i64 (i10 + 1)))], stab [(0, .var [.loc 1 0 l27.length, .d (.int .i64 y28), .d (.int .i64 y29), .d (.int .i64 y30)]), (1, .lst true (some 3) (List.map eapi_Item l27)), (2, .var [.d (.int .i64 y31.Places), .d (eL (some 3) eapi_Item y31.L), .d (.int .i64 y31.Lost)])], 3⟩ ?_ ?_
            · refine step (v := .d (.int .i64 (i10 + 1))) (st_inc (inc_ok hinv14 hgo13 hB12) rfl rfl) ?_
              refine step (v := .d (.int .i64 (i10 + 1))) rfl ?_
              exact RunOps.nil' (Norm.mk [0, 1, 2] (by decide) (by decide) (by decide) ⟨.ptr 0 _ _ (show 0 < 3 by decide), .ptr 2 _ _ (show 2 < 3 by decide), .d _, .d _, .d _, trivial⟩ ⟨⟨show 0 < 3 by decide, _, rfl, .vars ⟨.loc 1 _ _ (show 1 < 3 by decide), .d _, .d _, .d _, trivial⟩⟩, ⟨show 1 < 3 by decide, _, rfl, .lst _ _ _⟩, ⟨show 2 < 3 by decide, _, rfl, .vars ⟨.d _, .d _, .d _, trivial⟩⟩, trivial⟩)
            exact And.intro rfl rfl
      · rintro i10 ⟨l6, i7, i8, i9, y11⟩ hinv14 hgo13
        show NWp _ _ _ _ _ ⟨tab [(5, .ptr 0 0 0), (6, .ptr 2 0 0), (29, .d (eL (some 4) elaw16_Act a1)), (30, .d (.int .i64 (a1.length : Int))), (31, .d (.int .i64 i10))], stab [(0, .var [.loc 1 0 l6.length, .d (.int .i64 i7), .d (.int .i64 i8), .d (.int .i64 i9)]), (1, .lst true (some 3) (List.map eapi_Item l6)), (2, .var [.d (.int .i64 y11.Places), .d (eL (some 3) eapi_Item y11.L), .d (.int .i64 y11.Lost)])], 3⟩
        have hc15 : ¬ (decide (i10 < (a1.length : Int)) = true) := fun hq => hgo13 (of_decide_eq_true hq)
        refine NWp.opsJ ⟨tab [(5, .ptr 0 0 0), (6, .ptr 2 0 0), (29, .d (eL (some 4) elaw16_Act a1)), (30, .d (.int .i64 (a1.length : Int))), (31, .d (.int .i64 i10)), (32, .d (.bool (decide (i10 < (a1.length : Int)))))], stab [(0, .var [.loc 1 0 l6.length, .d (.int .i64 i7), .d (.int .i64 i8), .d (.int .i64 i9)]), (1, .lst true (some 3) (List.map eapi_Item l6)), (2, .var [.d (.int .i64 y11.Places), .d (eL (some 3) eapi_Item y11.L), .d (.int .i64 y11.Lost)])], 3⟩ ?_ ?_
        · refine step (v := .d (.bool (decide (i10 < (a1.length : Int))))) rfl ?_
          exact RunOps.nil' (Norm.mk [0, 1, 2] (by decide) (by decide) (by decide) ⟨.ptr 0 _ _ (show 0 < 3 by decide), .ptr 2 _ _ (show 2 < 3 by decide), .d _, .d _, .d _, .d _, trivial⟩ ⟨⟨show 0 < 3 by decide, _, rfl, .vars ⟨.loc 1 _ _ (show 1 < 3 by decide), .d _, .d _, .d _, trivial⟩⟩, ⟨show 1 < 3 by decide, _, rfl, .lst _ _ _⟩, ⟨show 2 < 3 by decide, _, rfl, .vars ⟨.d _, .d _, .d _, trivial⟩⟩, trivial⟩)
        refine NWp.seq ?_
        refine NWp.condF (t := decide (i10 < (a1.length : Int))) rfl hc15 ?_
        refine NWp.norm (s0 := ⟨tab [], stab [], 0⟩) (Norm.mk [] (by decide) (by decide) (by decide) trivial trivial) ?_
        refine NWp.exit ?_
        exact And.intro rfl rfl
      · intro r' hq
        subst hq
        exact Option.some.inj h
      rintro ⟨z61, z62, z63, z64, z65⟩ rfl
      refine NWp.opsJ ⟨tab [(4, .d (.bool true))], stab [], 0⟩ ?_ ?_
      · refine step (v := .d (.bool true)) rfl ?_
        exact RunOps.nil' (Norm.mk [] (by decide) (by decide) (by decide) ⟨.d _, trivial⟩ trivial)
      have hh := Option.some.inj h
      subst hh
      refine NWp.ret ?_
      show FQ _ _ _ _
      exact FQ.mk1 (.inr rfl) (res_t (v := .d (.bool true)) rfl rfl) (RV.d trivial)


end Go.AM
