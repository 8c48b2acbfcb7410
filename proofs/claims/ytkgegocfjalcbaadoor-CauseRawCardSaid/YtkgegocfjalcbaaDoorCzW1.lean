import Derived.Test.YtkgegocfjalcbaaDoorCzE
/-  What they are in the program: walks. -/
set_option linter.unusedVariables false
set_option linter.unusedSimpArgs false
namespace Go.AM
open Go Go.RowKit Go.Proofs

attribute [local irreducible] RunOps RunOpsL
set_option maxHeartbeats 2000000

theorem c_cause_looker_from {a0 : cause_looker} {a1 : Int} {r : (Int × Bool × Bool × cause_looker)} (h : cause_looker_from a0 a1 = some r) : SCall Tryd.prog 25 [.ptr 0 0 0, vi a1] (stab [(0, .var [vl1 a0.paths, vl0 a0.h, .loc 1 0 a0.switches.length, vl2 a0.ctrl, .loc 2 0 a0.ahead.length, .mref 3]), (1, .lst true none (List.map (eL none (D.int .u64)) a0.switches)), (2, .lst false none (List.map (eL none (D.int .u64)) a0.ahead)), (3, .mp (eM (D.int .i64) (D.int .i64) a0.last))]) 4 (.d (.tup [.int .i64 r.1, .bool r.2.1, .bool r.2.2.1])) (stab [(0, .var [vl1 r.2.2.2.paths, vl0 r.2.2.2.h, .loc 1 0 a0.switches.length, vl2 r.2.2.2.ctrl, .loc 2 0 a0.ahead.length, .mref 3]), (1, .lst true none (List.map (eL none (D.int .u64)) a0.switches)), (2, .lst false none (List.map (eL none (D.int .u64)) a0.ahead)), (3, .mp (eM (D.int .i64) (D.int .i64) a0.last))]) 4 := by
 refine SCall.introN (bl := [(0, .var [vl1 a0.paths, vl0 a0.h, .loc 1 0 a0.switches.length, vl2 a0.ctrl, .loc 2 0 a0.ahead.length, .mref 3]), (1, .lst true none (List.map (eL none (D.int .u64)) a0.switches)), (2, .lst false none (List.map (eL none (D.int .u64)) a0.ahead)), (3, .mp (eM (D.int .i64) (D.int .i64) a0.last))]) (bl' := [(0, .var [vl1 r.2.2.2.paths, vl0 r.2.2.2.h, .loc 1 0 a0.switches.length, vl2 r.2.2.2.ctrl, .loc 2 0 a0.ahead.length, .mref 3]), (1, .lst true none (List.map (eL none (D.int .u64)) a0.switches)), (2, .lst false none (List.map (eL none (D.int .u64)) a0.ahead)), (3, .mp (eM (D.int .i64) (D.int .i64) a0.last))]) ok25 (show 2 ≤ 57 by decide) rfl ?_
 refine NWp.norm (s0 := ⟨tab [(0, .ptr 0 0 0), (1, vi a1)], stab [(0, .var [vl1 a0.paths, vl0 a0.h, .loc 1 0 a0.switches.length, vl2 a0.ctrl, .loc 2 0 a0.ahead.length, .mref 3]), (1, .lst true none (List.map (eL none (D.int .u64)) a0.switches)), (2, .lst false none (List.map (eL none (D.int .u64)) a0.ahead)), (3, .mp (eM (D.int .i64) (D.int .i64) a0.last))], 4⟩) (nm [0, 1, 2, 3] ⟨.pt 0, .d _, trivial⟩ ⟨⟨show 0 < 4 by decide, _, rfl, .vars ⟨.d _, .d _, .lc 1, .d _, .lc 2, .mref 3 (show 3 < 4 by decide), trivial⟩⟩, ⟨show 1 < 4 by decide, _, rfl, .lst _ _ _⟩, ⟨show 2 < 4 by decide, _, rfl, .lst _ _ _⟩, ⟨show 3 < 4 by decide, _, rfl, .mp _⟩, trivial⟩) ?_
 refine NWp.opsJ ⟨tab [(0, .ptr 0 0 0), (1, vi a1)], stab [(0, .var [vl1 a0.paths, vl0 a0.h, .loc 1 0 a0.switches.length, vl2 a0.ctrl, .loc 2 0 a0.ahead.length, .mref 3]), (1, .lst true none (List.map (eL none (D.int .u64)) a0.switches)), (2, .lst false none (List.map (eL none (D.int .u64)) a0.ahead)), (3, .mp (eM (D.int .i64) (D.int .i64) a0.last))], 4⟩ ?_ ?_
 ·
  iterate 3 refine q1 _ ?_
  exact RunOps.nil' (nm [0, 1, 2, 3] ⟨.pt 0, .d _, trivial⟩ ⟨⟨show 0 < 4 by decide, _, rfl, .vars ⟨.d _, .d _, .lc 1, .d _, .lc 2, .mref 3 (show 3 < 4 by decide), trivial⟩⟩, ⟨show 1 < 4 by decide, _, rfl, .lst _ _ _⟩, ⟨show 2 < 4 by decide, _, rfl, .lst _ _ _⟩, ⟨show 3 < 4 by decide, _, rfl, .mp _⟩, trivial⟩)
 obtain ⟨x1, hx1, h⟩ := bindE h
 refine NWp.opsJ ⟨tab [(0, .ptr 0 0 0), (1, vi a1), (7, vi x1.Path)], stab [(0, .var [vl1 a0.paths, vl0 a0.h, .loc 1 0 a0.switches.length, vl2 a0.ctrl, .loc 2 0 a0.ahead.length, .mref 3]), (1, .lst true none (List.map (eL none (D.int .u64)) a0.switches)), (2, .lst false none (List.map (eL none (D.int .u64)) a0.ahead)), (3, .mp (eM (D.int .i64) (D.int .i64) a0.last))], 4⟩ ?_ ?_
 ·
  iterate 5 refine q1 _ ?_
  refine step (v := vp0 x1) (st_iaddr (xs := a0.h) (e := eapi_Step) hx1 rfl rfl) ?_
  iterate 3 refine q1 _ ?_
  exact RunOps.nil' (nm [0, 1, 2, 3] ⟨.pt 0, .d _, .d _, trivial⟩ ⟨⟨show 0 < 4 by decide, _, rfl, .vars ⟨.d _, .d _, .lc 1, .d _, .lc 2, .mref 3 (show 3 < 4 by decide), trivial⟩⟩, ⟨show 1 < 4 by decide, _, rfl, .lst _ _ _⟩, ⟨show 2 < 4 by decide, _, rfl, .lst _ _ _⟩, ⟨show 3 < 4 by decide, _, rfl, .mp _⟩, trivial⟩)
 refine NWp.seq ?_
 refine NWp.opsJ ⟨tab [(0, .ptr 0 0 0), (1, vi a1), (7, vi x1.Path), (20, vb (decide (x1.Path < 0)))], stab [(0, .var [vl1 a0.paths, vl0 a0.h, .loc 1 0 a0.switches.length, vl2 a0.ctrl, .loc 2 0 a0.ahead.length, .mref 3]), (1, .lst true none (List.map (eL none (D.int .u64)) a0.switches)), (2, .lst false none (List.map (eL none (D.int .u64)) a0.ahead)), (3, .mp (eM (D.int .i64) (D.int .i64) a0.last))], 4⟩ ?_ ?_
 ·
  iterate 2 refine q1 _ ?_
  exact RunOps.nil' (nm [0, 1, 2, 3] ⟨.pt 0, .d _, .d _, .d _, trivial⟩ ⟨⟨show 0 < 4 by decide, _, rfl, .vars ⟨.d _, .d _, .lc 1, .d _, .lc 2, .mref 3 (show 3 < 4 by decide), trivial⟩⟩, ⟨show 1 < 4 by decide, _, rfl, .lst _ _ _⟩, ⟨show 2 < 4 by decide, _, rfl, .lst _ _ _⟩, ⟨show 3 < 4 by decide, _, rfl, .mp _⟩, trivial⟩)
 by_cases hc2 : decide (x1.Path < 0) = true
 ·
  replace h := iteT hc2 h
  refine NWp.condT (t := decide (x1.Path < 0)) rfl hc2 ?_
  refine NWp.opsJ ⟨tab [(4, vi 0), (5, vb false), (6, vb true)], stab [(0, .var [vl1 a0.paths, vl0 a0.h, .loc 1 0 a0.switches.length, vl2 a0.ctrl, .loc 2 0 a0.ahead.length, .mref 3]), (1, .lst true none (List.map (eL none (D.int .u64)) a0.switches)), (2, .lst false none (List.map (eL none (D.int .u64)) a0.ahead)), (3, .mp (eM (D.int .i64) (D.int .i64) a0.last))], 4⟩ ?_ ?_
  ·
   iterate 3 refine q1 _ ?_
   exact RunOps.nil' (nm [0, 1, 2, 3] ⟨.d _, .d _, .d _, trivial⟩ ⟨⟨show 0 < 4 by decide, _, rfl, .vars ⟨.d _, .d _, .lc 1, .d _, .lc 2, .mref 3 (show 3 < 4 by decide), trivial⟩⟩, ⟨show 1 < 4 by decide, _, rfl, .lst _ _ _⟩, ⟨show 2 < 4 by decide, _, rfl, .lst _ _ _⟩, ⟨show 3 < 4 by decide, _, rfl, .mp _⟩, trivial⟩)
  have hh := Option.some.inj h
  subst hh
  refine NWp.ret ?_
  exact ⟨.inr rfl, _, rfl, rfl, AllS.sub ⟨rfl, rfl, rfl, rfl, trivial⟩, rfl⟩
 ·
  replace h := iteF hc2 h
  refine NWp.condF (t := decide (x1.Path < 0)) rfl hc2 ?_
  refine NWp.skip ?_
  refine NWp.seq ?_
  refine NWp.opsJ ⟨tab [(0, .ptr 0 0 0), (1, vi a1), (7, vi x1.Path), (8, vi ((mget a0.last x1.Path).getD 0)), (9, vb ((mget a0.last x1.Path).isSome))], stab [(0, .var [vl1 a0.paths, vl0 a0.h, .loc 1 0 a0.switches.length, vl2 a0.ctrl, .loc 2 0 a0.ahead.length, .mref 3]), (1, .lst true none (List.map (eL none (D.int .u64)) a0.switches)), (2, .lst false none (List.map (eL none (D.int .u64)) a0.ahead)), (3, .mp (eM (D.int .i64) (D.int .i64) a0.last))], 4⟩ ?_ ?_
  ·
   iterate 5 refine q1 _ ?_
   refine step (v := .d (.tup [.int .i64 ((mget a0.last x1.Path).getD 0), .bool ((mget a0.last x1.Path).isSome)])) (st_mgetO (ev := (D.int .i64)) (m := a0.last) (k := x1.Path) (key_int .i64) 0 rfl rfl rfl rfl) ?_
   iterate 5 refine q1 _ ?_
   exact RunOps.nil' (nm [0, 1, 2, 3] ⟨.pt 0, .d _, .d _, .d _, .d _, trivial⟩ ⟨⟨show 0 < 4 by decide, _, rfl, .vars ⟨.d _, .d _, .lc 1, .d _, .lc 2, .mref 3 (show 3 < 4 by decide), trivial⟩⟩, ⟨show 1 < 4 by decide, _, rfl, .lst _ _ _⟩, ⟨show 2 < 4 by decide, _, rfl, .lst _ _ _⟩, ⟨show 3 < 4 by decide, _, rfl, .mp _⟩, trivial⟩)
  refine NWp.opsJ ⟨tab [(0, .ptr 0 0 0), (1, vi a1), (7, vi x1.Path), (8, vi ((mget a0.last x1.Path).getD 0)), (30, vb ((mget a0.last x1.Path).isSome))], stab [(0, .var [vl1 a0.paths, vl0 a0.h, .loc 1 0 a0.switches.length, vl2 a0.ctrl, .loc 2 0 a0.ahead.length, .mref 3]), (1, .lst true none (List.map (eL none (D.int .u64)) a0.switches)), (2, .lst false none (List.map (eL none (D.int .u64)) a0.ahead)), (3, .mp (eM (D.int .i64) (D.int .i64) a0.last))], 4⟩ ?_ ?_
  ·
   refine q1 _ ?_
   exact RunOps.nil' (nm [0, 1, 2, 3] ⟨.pt 0, .d _, .d _, .d _, .d _, trivial⟩ ⟨⟨show 0 < 4 by decide, _, rfl, .vars ⟨.d _, .d _, .lc 1, .d _, .lc 2, .mref 3 (show 3 < 4 by decide), trivial⟩⟩, ⟨show 1 < 4 by decide, _, rfl, .lst _ _ _⟩, ⟨show 2 < 4 by decide, _, rfl, .lst _ _ _⟩, ⟨show 3 < 4 by decide, _, rfl, .mp _⟩, trivial⟩)
  by_cases hc3 : (mget a0.last x1.Path).isSome = true
  ·
   replace h := iteT hc3 h
   refine NWp.condT (t := (mget a0.last x1.Path).isSome) rfl hc3 ?_
   refine NWp.opsJ ⟨tab [(4, vi ((mget a0.last x1.Path).getD 0)), (5, vb true), (6, vb true)], stab [(0, .var [vl1 a0.paths, vl0 a0.h, .loc 1 0 a0.switches.length, vl2 a0.ctrl, .loc 2 0 a0.ahead.length, .mref 3]), (1, .lst true none (List.map (eL none (D.int .u64)) a0.switches)), (2, .lst false none (List.map (eL none (D.int .u64)) a0.ahead)), (3, .mp (eM (D.int .i64) (D.int .i64) a0.last))], 4⟩ ?_ ?_
   ·
    iterate 4 refine q1 _ ?_
    exact RunOps.nil' (nm [0, 1, 2, 3] ⟨.d _, .d _, .d _, trivial⟩ ⟨⟨show 0 < 4 by decide, _, rfl, .vars ⟨.d _, .d _, .lc 1, .d _, .lc 2, .mref 3 (show 3 < 4 by decide), trivial⟩⟩, ⟨show 1 < 4 by decide, _, rfl, .lst _ _ _⟩, ⟨show 2 < 4 by decide, _, rfl, .lst _ _ _⟩, ⟨show 3 < 4 by decide, _, rfl, .mp _⟩, trivial⟩)
   have hh := Option.some.inj h
   subst hh
   refine NWp.ret ?_
   exact ⟨.inr rfl, _, rfl, rfl, AllS.sub ⟨rfl, rfl, rfl, rfl, trivial⟩, rfl⟩
  ·
   replace h := iteF hc3 h
   refine NWp.condF (t := (mget a0.last x1.Path).isSome) rfl hc3 ?_
   refine NWp.skip ?_
   refine NWp.seq ?_
   obtain ⟨x4, hx4, h⟩ := bindE h
   refine NWp.opsJ ⟨tab [(0, .ptr 0 0 0), (1, vi a1), (7, vi x1.Path), (40, vb (decide (x4.Of < 0)))], stab [(0, .var [vl1 a0.paths, vl0 a0.h, .loc 1 0 a0.switches.length, vl2 a0.ctrl, .loc 2 0 a0.ahead.length, .mref 3]), (1, .lst true none (List.map (eL none (D.int .u64)) a0.switches)), (2, .lst false none (List.map (eL none (D.int .u64)) a0.ahead)), (3, .mp (eM (D.int .i64) (D.int .i64) a0.last))], 4⟩ ?_ ?_
   ·
    iterate 5 refine q1 _ ?_
    refine step (v := .d (.cptr (some 6) (eapi_Path x4) 0)) (st_iaddr (xs := a0.paths) (e := eapi_Path) hx4 rfl rfl) ?_
    iterate 3 refine q1 _ ?_
    exact RunOps.nil' (nm [0, 1, 2, 3] ⟨.pt 0, .d _, .d _, .d _, trivial⟩ ⟨⟨show 0 < 4 by decide, _, rfl, .vars ⟨.d _, .d _, .lc 1, .d _, .lc 2, .mref 3 (show 3 < 4 by decide), trivial⟩⟩, ⟨show 1 < 4 by decide, _, rfl, .lst _ _ _⟩, ⟨show 2 < 4 by decide, _, rfl, .lst _ _ _⟩, ⟨show 3 < 4 by decide, _, rfl, .mp _⟩, trivial⟩)
   by_cases hc5 : decide (x4.Of < 0) = true
   ·
    replace h := iteT hc5 h
    refine NWp.condT (t := decide (x4.Of < 0)) rfl hc5 ?_
    refine NWp.opsJ ⟨tab [(4, vi 0), (5, vb false), (6, vb true)], stab [(0, .var [vl1 a0.paths, vl0 a0.h, .loc 1 0 a0.switches.length, vl2 a0.ctrl, .loc 2 0 a0.ahead.length, .mref 3]), (1, .lst true none (List.map (eL none (D.int .u64)) a0.switches)), (2, .lst false none (List.map (eL none (D.int .u64)) a0.ahead)), (3, .mp (eM (D.int .i64) (D.int .i64) a0.last))], 4⟩ ?_ ?_
    ·
     iterate 3 refine q1 _ ?_
     exact RunOps.nil' (nm [0, 1, 2, 3] ⟨.d _, .d _, .d _, trivial⟩ ⟨⟨show 0 < 4 by decide, _, rfl, .vars ⟨.d _, .d _, .lc 1, .d _, .lc 2, .mref 3 (show 3 < 4 by decide), trivial⟩⟩, ⟨show 1 < 4 by decide, _, rfl, .lst _ _ _⟩, ⟨show 2 < 4 by decide, _, rfl, .lst _ _ _⟩, ⟨show 3 < 4 by decide, _, rfl, .mp _⟩, trivial⟩)
    have hh := Option.some.inj h
    subst hh
    refine NWp.ret ?_
    exact ⟨.inr rfl, _, rfl, rfl, AllS.sub ⟨rfl, rfl, rfl, rfl, trivial⟩, rfl⟩
   ·
    replace h := iteF hc5 h
    refine NWp.condF (t := decide (x4.Of < 0)) rfl hc5 ?_
    refine NWp.skip ?_
    refine NWp.opsJ ⟨tab [(1, vi a1), (10, vi x4.At)], stab [(0, .var [vl1 a0.paths, vl0 a0.h, .loc 1 0 a0.switches.length, vl2 a0.ctrl, .loc 2 0 a0.ahead.length, .mref 3]), (1, .lst true none (List.map (eL none (D.int .u64)) a0.switches)), (2, .lst false none (List.map (eL none (D.int .u64)) a0.ahead)), (3, .mp (eM (D.int .i64) (D.int .i64) a0.last))], 4⟩ ?_ ?_
    ·
     iterate 5 refine q1 _ ?_
     refine step (v := .d (.cptr (some 6) (eapi_Path x4) 0)) (st_iaddr (xs := a0.paths) (e := eapi_Path) hx4 rfl rfl) ?_
     iterate 3 refine q1 _ ?_
     exact RunOps.nil' (nm [0, 1, 2, 3] ⟨.d _, .d _, trivial⟩ ⟨⟨show 0 < 4 by decide, _, rfl, .vars ⟨.d _, .d _, .lc 1, .d _, .lc 2, .mref 3 (show 3 < 4 by decide), trivial⟩⟩, ⟨show 1 < 4 by decide, _, rfl, .lst _ _ _⟩, ⟨show 2 < 4 by decide, _, rfl, .lst _ _ _⟩, ⟨show 3 < 4 by decide, _, rfl, .mp _⟩, trivial⟩)
    refine NWp.opsJ ⟨tab [(4, vi x4.At), (5, vb true), (6, vb ((decide (x4.At ≥ 0)) && (decide (x4.At < a1))))], stab [(0, .var [vl1 a0.paths, vl0 a0.h, .loc 1 0 a0.switches.length, vl2 a0.ctrl, .loc 2 0 a0.ahead.length, .mref 3]), (1, .lst true none (List.map (eL none (D.int .u64)) a0.switches)), (2, .lst false none (List.map (eL none (D.int .u64)) a0.ahead)), (3, .mp (eM (D.int .i64) (D.int .i64) a0.last))], 4⟩ ?_ ?_
    ·
     iterate 4 refine q1 _ ?_
     by_cases hg6 : decide (x4.At ≥ 0) = true
     ·
      refine qG _ hg6 ?_
      refine q1 _ ?_
      refine qG _ hg6 ?_
      refine q1 _ ?_
      refine qG _ hg6 ?_
      refine q1 _ ?_
      refine step (v := vb (decide (x4.At < a1))) (st_pickT (b := decide (x4.At ≥ 0)) rfl hg6 rfl) ?_
      iterate 3 refine q1 _ ?_
      exact RunOps.nil' (nm [0, 1, 2, 3] ⟨.d _, .d _, .eq (by first | (simp [hg6]; done) | (simp_all; done) | grind), trivial⟩ ⟨⟨show 0 < 4 by decide, _, rfl, .vars ⟨.d _, .d _, .lc 1, .d _, .lc 2, .mref 3 (show 3 < 4 by decide), trivial⟩⟩, ⟨show 1 < 4 by decide, _, rfl, .lst _ _ _⟩, ⟨show 2 < 4 by decide, _, rfl, .lst _ _ _⟩, ⟨show 3 < 4 by decide, _, rfl, .mp _⟩, trivial⟩)
     ·
      iterate 3 refine qX _ hg6 ?_
      refine step (v := vb false) (st_pickF (b := decide (x4.At ≥ 0)) rfl hg6 rfl) ?_
      iterate 3 refine q1 _ ?_
      exact RunOps.nil' (nm [0, 1, 2, 3] ⟨.d _, .d _, .eq (by first | (simp [hg6]; done) | (simp_all; done) | grind), trivial⟩ ⟨⟨show 0 < 4 by decide, _, rfl, .vars ⟨.d _, .d _, .lc 1, .d _, .lc 2, .mref 3 (show 3 < 4 by decide), trivial⟩⟩, ⟨show 1 < 4 by decide, _, rfl, .lst _ _ _⟩, ⟨show 2 < 4 by decide, _, rfl, .lst _ _ _⟩, ⟨show 3 < 4 by decide, _, rfl, .mp _⟩, trivial⟩)
    have hh := Option.some.inj h
    subst hh
    refine NWp.ret ?_
    exact ⟨.inr rfl, _, rfl, rfl, AllS.sub ⟨rfl, rfl, rfl, rfl, trivial⟩, rfl⟩

theorem c_slices_Clone_uint64 {a0 : List Int} {r : List Int} (h : slices_Clone_uint64 a0 = some r) : SCall Tryd.prog 27 [.d (.vec none (List.map (D.int .u64) a0))] (stab []) 0 (.loc 0 0 r.length) (stab [(0, .lst true none (List.map (D.int .u64) r))]) 1 := by
 cases a0 with
 | nil =>
  refine SCall.empty ?_ ?_
  ·
   have h : some ([] : List Int) = some r := by simpa [slices_Clone_uint64, gapp] using h
   refine SCall.introN (bl := []) (bl' := [(0, .lst true none (List.map (D.int .u64) r))]) ok27 (show 1 ≤ 8 by decide) rfl ?_
   refine NWp.norm (s0 := ⟨tab [(0, .d (.nils))], stab [], 0⟩) (nr []) ?_
   refine NWp.opsJ ⟨tab [(0, .d (.nils))], stab [], 0⟩ ?_ ?_
   ·
    refine q1 _ ?_
    exact nR []
   refine NWp.seq ?_
   refine NWp.opsJ ⟨tab [(0, .d (.nils)), (4, vb true)], stab [], 0⟩ ?_ ?_
   ·
    iterate 2 refine q1 _ ?_
    exact nR []
   refine NWp.condT (t := true) rfl rfl ?_
   refine NWp.opsJ ⟨tab [(2, .d (.nils))], stab [], 0⟩ ?_ ?_
   ·
    refine q1 _ ?_
    exact nR []
   have hh := Option.some.inj h
   subst hh
   refine NWp.norm (s0 := ⟨tab [(2, .loc 0 0 (([] : List Int).length))], stab [(0, .lst true none (List.map (D.int .u64) ([] : List Int)))], 1⟩) (Norm.trans (s2 := ⟨tab [(2, .loc 0 0 (([] : List Int).length))], stab [(0, .lst true none (List.map (D.int .u64) ([] : List Int)))], 1⟩) (Norm.nil1 2 true none rfl) (nr [0])) ?_
   refine NWp.ret ?_
   exact ⟨.inr rfl, _, rfl, rfl, AllS.sub ⟨rfl, trivial⟩, rfl⟩
  ·
   refine SCall.introN (bl := []) (bl' := [(0, .lst true none (List.map (D.int .u64) r))]) ok27 (show 1 ≤ 8 by decide) rfl ?_
   refine NWp.norm (s0 := ⟨tab [(0, .mapr 0)], stab [], 0⟩) (nm [] ⟨.mp _, trivial⟩ trivial) ?_
   refine NWp.opsJ ⟨tab [(0, .mapr 0)], stab [], 0⟩ ?_ ?_
   ·
    refine q1 _ ?_
    exact RunOps.nil' (nm [] ⟨.mp _, trivial⟩ trivial)
   refine NWp.seq ?_
   refine NWp.opsJ ⟨tab [(0, vl2 ([] : List Int)), (4, vb false)], stab [], 0⟩ ?_ ?_
   ·
    iterate 2 refine q1 _ ?_
    exact RunOps.nil' (nm [] ⟨.nne _ _, .d _, trivial⟩ trivial)
   refine NWp.condF (t := false) rfl (by decide) ?_
   refine NWp.skip ?_
   obtain ⟨l1, hl1, h⟩ := bindE h
   refine NWp.opsJ ⟨tab [(2, .loc 0 0 l1.length)], stab [(0, .lst true none (List.map (D.int .u64) l1))], 1⟩ ?_ ?_
   ·
    refine step (v := .loc 0 0 (([] : List Int).length)) (σ' := (upd (stab []) 0 (some (.lst true none (List.map (D.int .u64) ([] : List Int)))))) (n' := 1) rfl ?_
    refine q1 _ ?_
    refine step (v := .loc 1 0 l1.length) (σ' := (upd (upd (upd (stab []) 0 (some (.lst true none (List.map (D.int .u64) ([] : List Int))))) 0 none) 1 (some (.lst true none (List.map (D.int .u64) l1))))) (n' := 2) (st_app (xs := ([] : List Int)) (ys := ([] : List Int)) (e := (D.int .u64)) hl1 rfl rfl rfl (src_v (xs := ([] : List Int)) (e := (D.int .u64)) rfl)) ?_
    refine q1 _ ?_
    exact nR [1]
   have hh := Option.some.inj h
   subst hh
   refine NWp.ret ?_
   exact ⟨.inr rfl, _, rfl, rfl, AllS.sub ⟨rfl, trivial⟩, rfl⟩
 | cons x xs =>
  refine SCall.introN (bl := []) (bl' := [(0, .lst true none (List.map (D.int .u64) r))]) ok27 (show 1 ≤ 8 by decide) rfl ?_
  refine NWp.norm (s0 := ⟨tab [(0, vl2 (x :: xs))], stab [], 0⟩) (nr []) ?_
  refine NWp.opsJ ⟨tab [(0, vl2 (x :: xs))], stab [], 0⟩ ?_ ?_
  ·
   refine q1 _ ?_
   exact nR []
  refine NWp.seq ?_
  refine NWp.opsJ ⟨tab [(0, vl2 (x :: xs)), (4, vb false)], stab [], 0⟩ ?_ ?_
  ·
   iterate 2 refine q1 _ ?_
   exact nR []
  refine NWp.condF (t := false) rfl (by decide) ?_
  refine NWp.skip ?_
  obtain ⟨l1, hl1, h⟩ := bindE h
  refine NWp.opsJ ⟨tab [(2, .loc 0 0 l1.length)], stab [(0, .lst true none (List.map (D.int .u64) l1))], 1⟩ ?_ ?_
  ·
   refine step (v := .loc 0 0 (([] : List Int).length)) (σ' := (upd (stab []) 0 (some (.lst true none (List.map (D.int .u64) ([] : List Int)))))) (n' := 1) rfl ?_
   refine q1 _ ?_
   refine step (v := .loc 1 0 l1.length) (σ' := (upd (upd (upd (stab []) 0 (some (.lst true none (List.map (D.int .u64) ([] : List Int))))) 0 none) 1 (some (.lst true none (List.map (D.int .u64) l1))))) (n' := 2) (st_app (xs := ([] : List Int)) (ys := (x :: xs)) (e := (D.int .u64)) hl1 rfl rfl rfl (src_v (xs := (x :: xs)) (e := (D.int .u64)) rfl)) ?_
   refine q1 _ ?_
   exact nR [1]
  have hh := Option.some.inj h
  subst hh
  refine NWp.ret ?_
  exact ⟨.inr rfl, _, rfl, rfl, AllS.sub ⟨rfl, trivial⟩, rfl⟩

theorem c_cause_steps_with {a0 : (List Int)} {a1 : (List Int)} {r : (List Int)} (h : cause_steps_with a0 a1 = some r) : PCall Tryd.prog 24 [eL none (D.int .u64) a0, eL none (D.int .u64) a1] (eL none (D.int .u64) r) := by
 refine PCall.introN ok24 (show 2 ≤ 34 by decide) ?_
 refine NWp.norm (s0 := ⟨tab [(0, vl2 a0), (1, vl2 a1)], stab [], 0⟩) (nr []) ?_
 refine NWp.opsJ ⟨tab [(0, vl2 a0), (1, vl2 a1)], stab [], 0⟩ ?_ ?_
 ·
  refine q1 _ ?_
  exact nR []
 obtain ⟨r1, hr1, h⟩ := bindE h
 refine NWp.opsJ ⟨tab [(1, vl2 a1), (5, .loc 0 0 r1.length)], stab [(0, .lst true none (List.map (D.int .u64) r1))], 1⟩ ?_ ?_
 ·
  refine q1 _ ?_
  refine stepW (v := .loc 0 0 r1.length) (σ' := (upd (stab []) 0 (some (.lst true none (List.map (D.int .u64) r1))))) (n' := 1) (SCall.lift [] (c_slices_Clone_uint64 hr1) (show 0 ≤ 1 by decide) (by decide) (show ∀ i ∈ [], i < 0 by decide) (dom_c (show 0 < 1 by decide) dom_n) (VNs.c (.d _) VNs.nil0) SN.nil0) (show 0 ≤ 1 by decide) ?_
  refine q1 _ ?_
  exact nR [0]
 refine NWp.seq ?_
 obtain ⟨z6, hl, h⟩ := bindE h
 refine NWp.block ?_
 refine loop_whK (fun (qq : (List Int)) => ⟨tab [(1, vl2 a1), (5, .loc 0 0 qq.length)], stab [(0, .lst true none (List.map (D.int .u64) qq))], 1⟩) 0 (fun (qq : (List Int)) => ⟨tab [(1, vl2 a1), (5, .loc 0 0 qq.length)], stab [(0, .lst true none (List.map (D.int .u64) qq))], 1⟩) hl ?_ ?_
 ·
  rintro l2 xr3 h
  show NWp _ _ _ _ _ ⟨tab [(1, vl2 a1), (5, .loc 0 0 l2.length)], stab [(0, .lst true none (List.map (D.int .u64) l2))], 1⟩
  refine NWp.seq ?_
  refine NWp.opsJ ⟨tab [(1, vl2 a1), (5, .loc 0 0 l2.length), (14, vb (decide ((l2.length : Int) < (a1.length : Int))))], stab [(0, .lst true none (List.map (D.int .u64) l2))], 1⟩ ?_ ?_
  ·
   iterate 3 refine q1 _ ?_
   refine step (v := vi (a1.length : Int)) (st_len (xs := a1) (e := (D.int .u64)) rfl) ?_
   refine q1 _ ?_
   exact nR [0]
  by_cases hc4 : decide ((l2.length : Int) < (a1.length : Int)) = true
  ·
   replace h := iteT hc4 h
   refine NWp.condT (t := decide ((l2.length : Int) < (a1.length : Int))) rfl hc4 ?_
   refine NWp.skip ?_
   refine NWp.block ?_
   obtain ⟨l5, hl5, h⟩ := bindE h
   have hh := Option.some.inj h
   subst hh
   refine NWp.opsE ⟨tab [(1, vl2 a1), (5, .loc 0 0 l5.length)], stab [(0, .lst true none (List.map (D.int .u64) l5))], 1⟩ ?_ ?_
   ·
    iterate 2 refine q1 _ ?_
    refine step (v := .loc 1 0 l5.length) (σ' := (upd (upd (stab [(0, .lst true none (List.map (D.int .u64) l2))]) 0 none) 1 (some (.lst true none (List.map (D.int .u64) l5))))) (n' := 2) (st_app (xs := l2) (ys := ([0] : List Int)) (e := (D.int .u64)) hl5 rfl rfl rfl (src_v (xs := ([0] : List Int)) (e := (D.int .u64)) rfl)) ?_
    refine q1 _ ?_
    exact nR [1]
   exact And.intro rfl rfl
  ·
   replace h := iteF hc4 h
   refine NWp.condF (t := decide ((l2.length : Int) < (a1.length : Int))) rfl hc4 ?_
   have hh := Option.some.inj h
   subst hh
   refine NWp.norm (s0 := ⟨tab [(1, vl2 a1), (5, .loc 0 0 l2.length)], stab [(0, .lst true none (List.map (D.int .u64) l2))], 1⟩) (nr [0]) ?_
   refine NWp.exit ?_
   exact And.intro rfl rfl
 refine NWp.seq ?_
 refine NWp.opsJ ⟨tab [(5, .loc 0 0 z6.length), (18, vl2 a1), (19, vi (a1.length : Int)), (20, vi 0)], stab [(0, .lst true none (List.map (D.int .u64) z6))], 1⟩ ?_ ?_
 ·
  refine q1 _ ?_
  refine step (v := vi (a1.length : Int)) (st_len (xs := a1) (e := (D.int .u64)) rfl) ?_
  refine q1 _ ?_
  exact nR [0]
 obtain ⟨z17, hl, h⟩ := bindE h
 refine NWp.block ?_
 refine loop_forO (cntU (a1.length : Int)) (fun (i8 : Int) (qq : (List Int)) => ⟨tab [(5, .loc 0 0 qq.length), (18, vl2 a1), (19, vi (a1.length : Int)), (20, vi i8)], stab [(0, .lst true none (List.map (D.int .u64) qq))], 1⟩) 2 (fun (qq : (List Int)) => ⟨tab [(5, .loc 0 0 qq.length)], stab [(0, .lst true none (List.map (D.int .u64) qq))], 1⟩) Low low_step hl (by unfold Low; omega) ?_ ?_ ?_
 ·
  rintro i8 l7 xr13 hinv11 hgo10 h
  show NWp _ _ _ _ _ ⟨tab [(5, .loc 0 0 l7.length), (18, vl2 a1), (19, vi (a1.length : Int)), (20, vi i8)], stab [(0, .lst true none (List.map (D.int .u64) l7))], 1⟩
  have hc12 : decide (i8 < (a1.length : Int)) = true := decide_eq_true hgo10
  refine NWp.opsJ ⟨tab [(5, .loc 0 0 l7.length), (18, vl2 a1), (19, vi (a1.length : Int)), (20, vi i8), (21, vb (decide (i8 < (a1.length : Int))))], stab [(0, .lst true none (List.map (D.int .u64) l7))], 1⟩ ?_ ?_
  ·
   refine q1 _ ?_
   exact nR [0]
  refine NWp.rng 19 rfl fun hB9 => ?_
  refine NWp.seq ?_
  refine NWp.condT (t := decide (i8 < (a1.length : Int))) rfl hc12 ?_
  refine NWp.skip ?_
  refine NWp.seq ?_
  refine NWp.block ?_
  obtain ⟨x14, hx14, h⟩ := bindE h
  refine NWp.opsJ ⟨tab [(5, .loc 0 0 l7.length), (6, vi i8), (7, .d (.int .u64 x14)), (18, vl2 a1), (19, vi (a1.length : Int)), (20, vi i8)], stab [(0, .lst true none (List.map (D.int .u64) l7))], 1⟩ ?_ ?_
  ·
   refine q1 _ ?_
   refine step (v := .d (.cptr none (.int .u64 x14) 0)) (st_iaddr (xs := a1) (e := (D.int .u64)) hx14 rfl rfl) ?_
   iterate 3 refine q1 _ ?_
   exact nR [0]
  obtain ⟨x15, hx15, h⟩ := bindE h
  obtain ⟨l16, hl16, h⟩ := bindE h
  refine NWp.opsE ⟨tab [(5, .loc 0 0 l16.length), (18, vl2 a1), (19, vi (a1.length : Int)), (20, vi i8)], stab [(0, .lst true none (List.map (D.int .u64) l16))], 1⟩ ?_ ?_
  ·
   iterate 2 refine q1 _ ?_
   refine step (v := .ptr 0 i8.toNat 0) (st_iaddrL (xs := l7) (e := (D.int .u64)) hx15 rfl rfl rfl rfl) ?_
   refine step (v := .d (.int .u64 x15)) (st_loadL (xs := l7) (e := (D.int .u64)) hx15 rfl rfl rfl) ?_
   iterate 2 refine q1 _ ?_
   refine step (v := .ptr 0 i8.toNat 0) (st_iaddrL (xs := l7) (e := (D.int .u64)) hx15 rfl rfl rfl rfl) ?_
   refine step (v := V.undef) (σ' := (upd (stab [(0, .lst true none (List.map (D.int .u64) l7))]) 0 (some (.lst true none (List.map (D.int .u64) l16))))) (n' := 1) (st_storeL' (e := (D.int .u64)) (v' := orI .u64 x15 x14) hl16 rfl rfl rfl rfl rfl) ?_
   exact RunOps.nil' (nm [0] ⟨.le (id := 0) (gput_len hl16).symm (show 0 < 1 by decide), .d _, .d _, .d _, trivial⟩ ⟨⟨show 0 < 1 by decide, _, rfl, .lst _ _ _⟩, trivial⟩)
  have hh := Option.some.inj h
  subst hh
  refine NWp.opsE ⟨tab [(5, .loc 0 0 l16.length), (18, vl2 a1), (19, vi (a1.length : Int)), (20, vi (i8 + 1))], stab [(0, .lst true none (List.map (D.int .u64) l16))], 1⟩ ?_ ?_
  ·
   refine step (v := vi (i8 + 1)) (st_inc (inc_ok hinv11 hgo10 hB9) rfl rfl) ?_
   refine q1 _ ?_
   exact nR [0]
  exact And.intro rfl rfl
 ·
  rintro i8 l7 hinv11 hgo10
  show NWp _ _ _ _ _ ⟨tab [(5, .loc 0 0 l7.length), (18, vl2 a1), (19, vi (a1.length : Int)), (20, vi i8)], stab [(0, .lst true none (List.map (D.int .u64) l7))], 1⟩
  have hc12 : ¬ (decide (i8 < (a1.length : Int)) = true) := fun hq => hgo10 (of_decide_eq_true hq)
  refine NWp.opsJ ⟨tab [(5, .loc 0 0 l7.length), (18, vl2 a1), (19, vi (a1.length : Int)), (20, vi i8), (21, vb (decide (i8 < (a1.length : Int))))], stab [(0, .lst true none (List.map (D.int .u64) l7))], 1⟩ ?_ ?_
  ·
   refine q1 _ ?_
   exact nR [0]
  refine NWp.seq ?_
  refine NWp.condF (t := decide (i8 < (a1.length : Int))) rfl hc12 ?_
  refine NWp.norm (s0 := ⟨tab [(5, .loc 0 0 l7.length)], stab [(0, .lst true none (List.map (D.int .u64) l7))], 1⟩) (nr [0]) ?_
  refine NWp.exit ?_
  exact And.intro rfl rfl
 refine NWp.opsJ ⟨tab [(4, .loc 0 0 z17.length)], stab [(0, .lst true none (List.map (D.int .u64) z17))], 1⟩ ?_ ?_
 ·
  iterate 2 refine q1 _ ?_
  exact nR [0]
 have hh := Option.some.inj h
 subst hh
 refine NWp.ret ?_
 show FQ _ _ _ _
 exact FQ.mk1 (.inr rfl) (res_t (v := .loc 0 0 z17.length) rfl rfl) (RV.loc (xs := z17) (e := (D.int .u64)) rfl rfl trivial)

theorem c_cause_steps_and {a0 : (List Int)} {a1 : Int} {r : (List Int)} (h : cause_steps_and a0 a1 = some r) : PCall Tryd.prog 26 [eL none (D.int .u64) a0, .int .i64 a1] (eL none (D.int .u64) r) := by
 refine PCall.introN ok26 (show 2 ≤ 20 by decide) ?_
 refine NWp.norm (s0 := ⟨tab [(0, vl2 a0), (1, vi a1)], stab [], 0⟩) (nr []) ?_
 refine NWp.opsJ ⟨tab [(0, vl2 a0), (1, vi a1)], stab [], 0⟩ ?_ ?_
 ·
  refine q1 _ ?_
  exact nR []
 obtain ⟨l1, hl1, h⟩ := bindE h
 refine NWp.opsJ ⟨tab [(0, vl2 a0), (1, vi a1), (5, .loc 0 0 l1.length)], stab [(0, .lst true none (List.map (D.int .u64) l1))], 1⟩ ?_ ?_
 ·
  iterate 3 refine q1 _ ?_
  refine step (v := .loc 0 0 l1.length) (σ' := (upd (stab []) 0 (some (.lst true none (List.map (D.int .u64) l1))))) (n' := 1) (st_mk (e := (D.int .u64)) (z := 0) hl1 rfl rfl (gmk_le hl1)) ?_
  refine q1 _ ?_
  exact nR [0]
 obtain ⟨q2, hq2, h⟩ := bindE h
 obtain ⟨x3, hx3, h⟩ := bindE h
 obtain ⟨l4, hl4, h⟩ := bindE h
 refine NWp.opsJ ⟨tab [(0, vl2 a0), (5, .loc 0 0 l4.length)], stab [(0, .lst true none (List.map (D.int .u64) l4))], 1⟩ ?_ ?_
 ·
  iterate 5 refine q1 _ ?_
  refine step (v := .d (.int .u64 q2)) (st_shl hq2 rfl rfl) ?_
  refine step (v := .ptr 0 (IntKind.i64.wrap (a1.tdiv 64)).toNat 0) (st_iaddrL (xs := l1) (e := (D.int .u64)) hx3 rfl rfl rfl rfl) ?_
  refine step (v := V.undef) (σ' := (upd (stab [(0, .lst true none (List.map (D.int .u64) l1))]) 0 (some (.lst true none (List.map (D.int .u64) l4))))) (n' := 1) (st_storeL' (e := (D.int .u64)) (v' := q2) hl4 rfl rfl rfl rfl rfl) ?_
  exact RunOps.nil' (nm [0] ⟨.d _, .le (id := 0) (gput_len hl4).symm (show 0 < 1 by decide), trivial⟩ ⟨⟨show 0 < 1 by decide, _, rfl, .lst _ _ _⟩, trivial⟩)
 refine NWp.norm (s0 := ⟨tab [(0, vl2 a0), (5, vl2 l4)], stab [], 0⟩) (Norm.trans (s2 := ⟨tab [(0, vl2 a0), (5, vl2 l4)], stab [], 0⟩) (Norm.imm1 [5] (id := 0) (m := true) (k := none) (xs := l4) (e := (D.int .u64)) rfl (fun t ht => by cases ht with | head => exact ⟨_, rfl, rfl⟩ | tail _ h => cases h)) (nr [])) ?_
 obtain ⟨r5, hr5, h⟩ := bindE h
 refine NWp.opsJ ⟨tab [(4, vl2 r5)], stab [], 0⟩ ?_ ?_
 ·
  iterate 2 refine q1 _ ?_
  refine stepC (r := eL none (D.int .u64) r5) (ArgsOk.dt (ArgsOk.dt ArgsOk.nil')) (c_cause_steps_with hr5) ?_
  refine q1 _ ?_
  exact nR []
 have hh := Option.some.inj h
 subst hh
 refine NWp.ret ?_
 show FQ _ _ _ _
 exact FQ.mk1 (.inr rfl) (res_t (v := vl2 r5) rfl rfl) (RV.d trivial)

theorem c_cause_looker_step {a0 : cause_looker} {a1 : Int} {r : (Bool × cause_looker)} (h : cause_looker_step a0 a1 = some r) : SCall Tryd.prog 23 [.ptr 0 0 0, vi a1] (stab [(0, .var [vl1 a0.paths, vl0 a0.h, .loc 1 0 a0.switches.length, vl2 a0.ctrl, .loc 2 0 a0.ahead.length, .mref 3]), (1, .lst true none (List.map (eL none (D.int .u64)) a0.switches)), (2, .lst false none (List.map (eL none (D.int .u64)) a0.ahead)), (3, .mp (eM (D.int .i64) (D.int .i64) a0.last))]) 4 (vb r.1) (stab [(0, .var [vl1 r.2.paths, vl0 r.2.h, .loc 1 0 r.2.switches.length, vl2 r.2.ctrl, .loc 4 0 r.2.ahead.length, .mref 3]), (1, .lst true none (List.map (eL none (D.int .u64)) r.2.switches)), (3, .mp (eM (D.int .i64) (D.int .i64) r.2.last)), (4, .lst false none (List.map (eL none (D.int .u64)) r.2.ahead))]) 5 := by
 refine SCall.introN (bl := [(0, .var [vl1 a0.paths, vl0 a0.h, .loc 1 0 a0.switches.length, vl2 a0.ctrl, .loc 2 0 a0.ahead.length, .mref 3]), (1, .lst true none (List.map (eL none (D.int .u64)) a0.switches)), (2, .lst false none (List.map (eL none (D.int .u64)) a0.ahead)), (3, .mp (eM (D.int .i64) (D.int .i64) a0.last))]) (bl' := [(0, .var [vl1 r.2.paths, vl0 r.2.h, .loc 1 0 r.2.switches.length, vl2 r.2.ctrl, .loc 4 0 r.2.ahead.length, .mref 3]), (1, .lst true none (List.map (eL none (D.int .u64)) r.2.switches)), (3, .mp (eM (D.int .i64) (D.int .i64) r.2.last)), (4, .lst false none (List.map (eL none (D.int .u64)) r.2.ahead))]) ok23 (show 2 ≤ 82 by decide) rfl ?_
 refine NWp.norm (s0 := ⟨tab [(0, .ptr 0 0 0), (1, vi a1)], stab [(0, .var [vl1 a0.paths, vl0 a0.h, .loc 1 0 a0.switches.length, vl2 a0.ctrl, .loc 2 0 a0.ahead.length, .mref 3]), (1, .lst true none (List.map (eL none (D.int .u64)) a0.switches)), (2, .lst false none (List.map (eL none (D.int .u64)) a0.ahead)), (3, .mp (eM (D.int .i64) (D.int .i64) a0.last))], 4⟩) (nm [0, 1, 2, 3] ⟨.pt 0, .d _, trivial⟩ ⟨⟨show 0 < 4 by decide, _, rfl, .vars ⟨.d _, .d _, .lc 1, .d _, .lc 2, .mref 3 (show 3 < 4 by decide), trivial⟩⟩, ⟨show 1 < 4 by decide, _, rfl, .lst _ _ _⟩, ⟨show 2 < 4 by decide, _, rfl, .lst _ _ _⟩, ⟨show 3 < 4 by decide, _, rfl, .mp _⟩, trivial⟩) ?_
 refine NWp.opsJ ⟨tab [(0, .ptr 0 0 0), (1, vi a1)], stab [(0, .var [vl1 a0.paths, vl0 a0.h, .loc 1 0 a0.switches.length, vl2 a0.ctrl, .loc 2 0 a0.ahead.length, .mref 3]), (1, .lst true none (List.map (eL none (D.int .u64)) a0.switches)), (2, .lst false none (List.map (eL none (D.int .u64)) a0.ahead)), (3, .mp (eM (D.int .i64) (D.int .i64) a0.last))], 4⟩ ?_ ?_
 ·
  refine q1 _ ?_
  exact RunOps.nil' (nm [0, 1, 2, 3] ⟨.pt 0, .d _, trivial⟩ ⟨⟨show 0 < 4 by decide, _, rfl, .vars ⟨.d _, .d _, .lc 1, .d _, .lc 2, .mref 3 (show 3 < 4 by decide), trivial⟩⟩, ⟨show 1 < 4 by decide, _, rfl, .lst _ _ _⟩, ⟨show 2 < 4 by decide, _, rfl, .lst _ _ _⟩, ⟨show 3 < 4 by decide, _, rfl, .mp _⟩, trivial⟩)
 obtain ⟨x1, hx1, h⟩ := bindE h
 refine NWp.opsJ ⟨tab [(0, .ptr 0 0 0), (1, vi a1), (5, .ptr 4 0 0)], stab [(0, .var [vl1 a0.paths, vl0 a0.h, .loc 1 0 a0.switches.length, vl2 a0.ctrl, .loc 2 0 a0.ahead.length, .mref 3]), (1, .lst true none (List.map (eL none (D.int .u64)) a0.switches)), (2, .lst false none (List.map (eL none (D.int .u64)) a0.ahead)), (3, .mp (eM (D.int .i64) (D.int .i64) a0.last)), (4, .var [vi x1.What, vi x1.Switch, vh x1.Hop.In.a0, vh x1.Hop.In.a1, vh x1.Hop.In.a2, vh x1.Hop.In.a3, vh x1.Hop.In.a4, vh x1.Hop.In.a5, vh x1.Hop.In.a6, vh x1.Hop.In.a7, vb x1.Hop.Fresh, vh x1.Hop.Tag, .d (.int .u64 x1.Hop.Was), .d (.int .u64 x1.Hop.Now), .d (.int .u64 x1.Hop.New), .d (eL (some 8) (eA8 (D.int .u16)) x1.Hop.Out), vi x1.Hop.Err, vi x1.Path])], 5⟩ ?_ ?_
 ·
  iterate 5 refine q1 _ ?_
  refine step (v := vp0 x1) (st_iaddr (xs := a0.h) (e := eapi_Step) hx1 rfl rfl) ?_
  refine q1 _ ?_
  refine step (v := .ptr 4 0 0) (σ' := (upd (stab [(0, .var [vl1 a0.paths, vl0 a0.h, .loc 1 0 a0.switches.length, vl2 a0.ctrl, .loc 2 0 a0.ahead.length, .mref 3]), (1, .lst true none (List.map (eL none (D.int .u64)) a0.switches)), (2, .lst false none (List.map (eL none (D.int .u64)) a0.ahead)), (3, .mp (eM (D.int .i64) (D.int .i64) a0.last))]) 4 (some (.var [vi 0, vi 0, vh 0, vh 0, vh 0, vh 0, vh 0, vh 0, vh 0, vh 0, vb false, vh 0, .d (.int .u64 0), .d (.int .u64 0), .d (.int .u64 0), .d (eL (some 8) (eA8 (D.int .u16)) []), vi 0, vi 0])))) (n' := 5) rfl ?_
  refine step (v := V.undef) (σ' := (upd (upd (stab [(0, .var [vl1 a0.paths, vl0 a0.h, .loc 1 0 a0.switches.length, vl2 a0.ctrl, .loc 2 0 a0.ahead.length, .mref 3]), (1, .lst true none (List.map (eL none (D.int .u64)) a0.switches)), (2, .lst false none (List.map (eL none (D.int .u64)) a0.ahead)), (3, .mp (eM (D.int .i64) (D.int .i64) a0.last))]) 4 (some (.var [vi 0, vi 0, vh 0, vh 0, vh 0, vh 0, vh 0, vh 0, vh 0, vh 0, vb false, vh 0, .d (.int .u64 0), .d (.int .u64 0), .d (.int .u64 0), .d (eL (some 8) (eA8 (D.int .u16)) []), vi 0, vi 0]))) 4 (some (.var [vi x1.What, vi x1.Switch, vh x1.Hop.In.a0, vh x1.Hop.In.a1, vh x1.Hop.In.a2, vh x1.Hop.In.a3, vh x1.Hop.In.a4, vh x1.Hop.In.a5, vh x1.Hop.In.a6, vh x1.Hop.In.a7, vb x1.Hop.Fresh, vh x1.Hop.Tag, .d (.int .u64 x1.Hop.Was), .d (.int .u64 x1.Hop.Now), .d (.int .u64 x1.Hop.New), .d (eL (some 8) (eA8 (D.int .u16)) x1.Hop.Out), vi x1.Hop.Err, vi x1.Path])))) (n' := 5) rfl ?_
  exact RunOps.nil' (nm [0, 1, 2, 3, 4] ⟨.pt 0, .d _, .pt 4, trivial⟩ ⟨⟨show 0 < 5 by decide, _, rfl, .vars ⟨.d _, .d _, .lc 1, .d _, .lc 2, .mref 3 (show 3 < 5 by decide), trivial⟩⟩, ⟨show 1 < 5 by decide, _, rfl, .lst _ _ _⟩, ⟨show 2 < 5 by decide, _, rfl, .lst _ _ _⟩, ⟨show 3 < 5 by decide, _, rfl, .mp _⟩, ⟨show 4 < 5 by decide, _, rfl, .vars ⟨.d _, .d _, .d _, .d _, .d _, .d _, .d _, .d _, .d _, .d _, .d _, .d _, .d _, .d _, .d _, .d _, .d _, .d _, trivial⟩⟩, trivial⟩)
 obtain ⟨x2, hx2, h⟩ := bindE h
 refine NWp.opsJ ⟨tab [(0, .ptr 0 0 0), (1, vi a1), (5, .ptr 4 0 0), (6, vl2 x2)], stab [(0, .var [vl1 a0.paths, vl0 a0.h, .loc 1 0 a0.switches.length, vl2 a0.ctrl, .loc 2 0 a0.ahead.length, .mref 3]), (1, .lst true none (List.map (eL none (D.int .u64)) a0.switches)), (2, .lst false none (List.map (eL none (D.int .u64)) a0.ahead)), (3, .mp (eM (D.int .i64) (D.int .i64) a0.last)), (4, .var [vi x1.What, vi x1.Switch, vh x1.Hop.In.a0, vh x1.Hop.In.a1, vh x1.Hop.In.a2, vh x1.Hop.In.a3, vh x1.Hop.In.a4, vh x1.Hop.In.a5, vh x1.Hop.In.a6, vh x1.Hop.In.a7, vb x1.Hop.Fresh, vh x1.Hop.Tag, .d (.int .u64 x1.Hop.Was), .d (.int .u64 x1.Hop.Now), .d (.int .u64 x1.Hop.New), .d (eL (some 8) (eA8 (D.int .u16)) x1.Hop.Out), vi x1.Hop.Err, vi x1.Path])], 5⟩ ?_ ?_
 ·
  iterate 6 refine q1 _ ?_
  refine step (v := .ptr 1 x1.Switch.toNat 0) (st_iaddrL (xs := a0.switches) (e := (eL none (D.int .u64))) hx2 rfl rfl rfl rfl) ?_
  refine step (v := vl2 x2) (st_loadL (xs := a0.switches) (e := (eL none (D.int .u64))) hx2 rfl rfl rfl) ?_
  refine q1 _ ?_
  exact RunOps.nil' (nm [0, 1, 2, 3, 4] ⟨.pt 0, .d _, .pt 4, .d _, trivial⟩ ⟨⟨show 0 < 5 by decide, _, rfl, .vars ⟨.d _, .d _, .lc 1, .d _, .lc 2, .mref 3 (show 3 < 5 by decide), trivial⟩⟩, ⟨show 1 < 5 by decide, _, rfl, .lst _ _ _⟩, ⟨show 2 < 5 by decide, _, rfl, .lst _ _ _⟩, ⟨show 3 < 5 by decide, _, rfl, .mp _⟩, ⟨show 4 < 5 by decide, _, rfl, .vars ⟨.d _, .d _, .d _, .d _, .d _, .d _, .d _, .d _, .d _, .d _, .d _, .d _, .d _, .d _, .d _, .d _, .d _, .d _, trivial⟩⟩, trivial⟩)
 obtain ⟨r3, hr3, h⟩ := bindE h
 refine NWp.opsJ ⟨tab [(0, .ptr 0 0 0), (1, vi a1), (5, .ptr 4 0 0), (6, vl2 x2), (7, vi r3.1), (8, vb r3.2.1), (9, vb r3.2.2.1)], stab [(0, .var [vl1 r3.2.2.2.paths, vl0 r3.2.2.2.h, .loc 1 0 a0.switches.length, vl2 r3.2.2.2.ctrl, .loc 2 0 a0.ahead.length, .mref 3]), (1, .lst true none (List.map (eL none (D.int .u64)) a0.switches)), (2, .lst false none (List.map (eL none (D.int .u64)) a0.ahead)), (3, .mp (eM (D.int .i64) (D.int .i64) a0.last)), (4, .var [vi x1.What, vi x1.Switch, vh x1.Hop.In.a0, vh x1.Hop.In.a1, vh x1.Hop.In.a2, vh x1.Hop.In.a3, vh x1.Hop.In.a4, vh x1.Hop.In.a5, vh x1.Hop.In.a6, vh x1.Hop.In.a7, vb x1.Hop.Fresh, vh x1.Hop.Tag, .d (.int .u64 x1.Hop.Was), .d (.int .u64 x1.Hop.Now), .d (.int .u64 x1.Hop.New), .d (eL (some 8) (eA8 (D.int .u16)) x1.Hop.Out), vi x1.Hop.Err, vi x1.Path])], 5⟩ ?_ ?_
 ·
  iterate 2 refine q1 _ ?_
  refine stepW (v := .d (.tup [.int .i64 r3.1, .bool r3.2.1, .bool r3.2.2.1])) (σ' := (upd (upd (upd (upd (upd (upd (upd (upd (stab [(0, .var [vl1 a0.paths, vl0 a0.h, .loc 1 0 a0.switches.length, vl2 a0.ctrl, .loc 2 0 a0.ahead.length, .mref 3]), (1, .lst true none (List.map (eL none (D.int .u64)) a0.switches)), (2, .lst false none (List.map (eL none (D.int .u64)) a0.ahead)), (3, .mp (eM (D.int .i64) (D.int .i64) a0.last)), (4, .var [vi x1.What, vi x1.Switch, vh x1.Hop.In.a0, vh x1.Hop.In.a1, vh x1.Hop.In.a2, vh x1.Hop.In.a3, vh x1.Hop.In.a4, vh x1.Hop.In.a5, vh x1.Hop.In.a6, vh x1.Hop.In.a7, vb x1.Hop.Fresh, vh x1.Hop.Tag, .d (.int .u64 x1.Hop.Was), .d (.int .u64 x1.Hop.Now), .d (.int .u64 x1.Hop.New), .d (eL (some 8) (eA8 (D.int .u16)) x1.Hop.Out), vi x1.Hop.Err, vi x1.Path])]) 3 none) 2 none) 1 none) 0 none) 3 (some (.mp (eM (D.int .i64) (D.int .i64) a0.last)))) 2 (some (.lst false none (List.map (eL none (D.int .u64)) a0.ahead)))) 1 (some (.lst true none (List.map (eL none (D.int .u64)) a0.switches)))) 0 (some (.var [vl1 r3.2.2.2.paths, vl0 r3.2.2.2.h, .loc 1 0 a0.switches.length, vl2 r3.2.2.2.ctrl, .loc 2 0 a0.ahead.length, .mref 3])))) (n' := 5) (SCall.lift [0, 1, 2, 3] (c_cause_looker_from hr3) (show 4 ≤ 4 by decide) (by decide) (show ∀ i ∈ [0, 1, 2, 3], i < 5 by decide) (dom_c (show 0 < 4 by decide) (dom_c (show 1 < 4 by decide) (dom_c (show 2 < 4 by decide) (dom_c (show 3 < 4 by decide) dom_n)))) (VNs.c (.pt 0) (VNs.c (.d _) VNs.nil0)) (SN.c (show 0 < 4 by decide) rfl (.vars (VNs.c (.d _) (VNs.c (.d _) (VNs.c (.lc 1) (VNs.c (.d _) (VNs.c (.lc 2) (VNs.c (.mref 3 (show 3 < 4 by decide)) VNs.nil0))))))) (SN.c (show 1 < 4 by decide) rfl (.lst _ _ _) (SN.c (show 2 < 4 by decide) rfl (.lst _ _ _) (SN.c (show 3 < 4 by decide) rfl (.mp _) SN.nil0))))) (show 5 ≤ 5 by decide) ?_
  iterate 7 refine q1 _ ?_
  exact RunOps.nil' (nm [0, 1, 2, 3, 4] ⟨.pt 0, .d _, .pt 4, .d _, .d _, .d _, .d _, trivial⟩ ⟨⟨show 0 < 5 by decide, _, rfl, .vars ⟨.d _, .d _, .lc 1, .d _, .lc 2, .mref 3 (show 3 < 5 by decide), trivial⟩⟩, ⟨show 1 < 5 by decide, _, rfl, .lst _ _ _⟩, ⟨show 2 < 5 by decide, _, rfl, .lst _ _ _⟩, ⟨show 3 < 5 by decide, _, rfl, .mp _⟩, ⟨show 4 < 5 by decide, _, rfl, .vars ⟨.d _, .d _, .d _, .d _, .d _, .d _, .d _, .d _, .d _, .d _, .d _, .d _, .d _, .d _, .d _, .d _, .d _, .d _, trivial⟩⟩, trivial⟩)
 refine NWp.seq ?_
 refine NWp.opsJ ⟨tab [(0, .ptr 0 0 0), (1, vi a1), (5, .ptr 4 0 0), (6, vl2 x2), (7, vi r3.1), (8, vb r3.2.1), (33, vb (!r3.2.2.1))], stab [(0, .var [vl1 r3.2.2.2.paths, vl0 r3.2.2.2.h, .loc 1 0 a0.switches.length, vl2 r3.2.2.2.ctrl, .loc 2 0 a0.ahead.length, .mref 3]), (1, .lst true none (List.map (eL none (D.int .u64)) a0.switches)), (2, .lst false none (List.map (eL none (D.int .u64)) a0.ahead)), (3, .mp (eM (D.int .i64) (D.int .i64) a0.last)), (4, .var [vi x1.What, vi x1.Switch, vh x1.Hop.In.a0, vh x1.Hop.In.a1, vh x1.Hop.In.a2, vh x1.Hop.In.a3, vh x1.Hop.In.a4, vh x1.Hop.In.a5, vh x1.Hop.In.a6, vh x1.Hop.In.a7, vb x1.Hop.Fresh, vh x1.Hop.Tag, .d (.int .u64 x1.Hop.Was), .d (.int .u64 x1.Hop.Now), .d (.int .u64 x1.Hop.New), .d (eL (some 8) (eA8 (D.int .u16)) x1.Hop.Out), vi x1.Hop.Err, vi x1.Path])], 5⟩ ?_ ?_
 ·
  iterate 2 refine q1 _ ?_
  exact RunOps.nil' (nm [0, 1, 2, 3, 4] ⟨.pt 0, .d _, .pt 4, .d _, .d _, .d _, .d _, trivial⟩ ⟨⟨show 0 < 5 by decide, _, rfl, .vars ⟨.d _, .d _, .lc 1, .d _, .lc 2, .mref 3 (show 3 < 5 by decide), trivial⟩⟩, ⟨show 1 < 5 by decide, _, rfl, .lst _ _ _⟩, ⟨show 2 < 5 by decide, _, rfl, .lst _ _ _⟩, ⟨show 3 < 5 by decide, _, rfl, .mp _⟩, ⟨show 4 < 5 by decide, _, rfl, .vars ⟨.d _, .d _, .d _, .d _, .d _, .d _, .d _, .d _, .d _, .d _, .d _, .d _, .d _, .d _, .d _, .d _, .d _, .d _, trivial⟩⟩, trivial⟩)
 by_cases hc4 : (!r3.2.2.1) = true
 ·
  replace h := iteT hc4 h
  refine NWp.condT (t := (!r3.2.2.1)) rfl hc4 ?_
  refine NWp.opsJ ⟨tab [(4, vb false)], stab [(0, .var [vl1 r3.2.2.2.paths, vl0 r3.2.2.2.h, .loc 1 0 a0.switches.length, vl2 r3.2.2.2.ctrl, .loc 2 0 a0.ahead.length, .mref 3]), (1, .lst true none (List.map (eL none (D.int .u64)) a0.switches)), (2, .lst false none (List.map (eL none (D.int .u64)) a0.ahead)), (3, .mp (eM (D.int .i64) (D.int .i64) a0.last))], 4⟩ ?_ ?_
  ·
   refine q1 _ ?_
   exact RunOps.nil' (nm [0, 1, 2, 3] ⟨.d _, trivial⟩ ⟨⟨show 0 < 4 by decide, _, rfl, .vars ⟨.d _, .d _, .lc 1, .d _, .lc 2, .mref 3 (show 3 < 4 by decide), trivial⟩⟩, ⟨show 1 < 4 by decide, _, rfl, .lst _ _ _⟩, ⟨show 2 < 4 by decide, _, rfl, .lst _ _ _⟩, ⟨show 3 < 4 by decide, _, rfl, .mp _⟩, trivial⟩)
  have hh := Option.some.inj h
  subst hh
  refine NWp.norm (s0 := ⟨tab [(4, vb false)], stab [(0, .var [vl1 r3.2.2.2.paths, vl0 r3.2.2.2.h, .loc 1 0 a0.switches.length, vl2 r3.2.2.2.ctrl, .loc 4 0 a0.ahead.length, .mref 3]), (1, .lst true none (List.map (eL none (D.int .u64)) a0.switches)), (3, .mp (eM (D.int .i64) (D.int .i64) a0.last)), (4, .lst false none (List.map (eL none (D.int .u64)) a0.ahead))], 5⟩) (Norm.mkR [0, 1, 2, 3, 2] [0, 1, 3, 4] (by decide) rfl (by decide) (by decide) ⟨.d _, trivial⟩ ⟨⟨show 0 < 5 by decide, _, rfl, .vars ⟨.d _, .d _, .lc 1, .d _, .lc 4, .mref 3 (show 3 < 5 by decide), trivial⟩⟩, ⟨show 1 < 5 by decide, _, rfl, .lst _ _ _⟩, ⟨show 3 < 5 by decide, _, rfl, .mp _⟩, ⟨show 4 < 5 by decide, _, rfl, .lst _ _ _⟩, trivial⟩) ?_
  refine NWp.ret ?_
  exact ⟨.inr rfl, _, rfl, rfl, AllS.sub ⟨rfl, rfl, rfl, rfl, trivial⟩, rfl⟩
 ·
  replace h := iteF hc4 h
  refine NWp.condF (t := (!r3.2.2.1)) rfl hc4 ?_
  refine NWp.skip ?_
  obtain ⟨y10, hv, h⟩ := bindE h
  refine NWp.seqN ⟨tab [(0, .ptr 0 0 0), (1, vi a1), (5, .ptr 4 0 0), (6, vl2 y10)], stab [(0, .var [vl1 r3.2.2.2.paths, vl0 r3.2.2.2.h, .loc 1 0 a0.switches.length, vl2 r3.2.2.2.ctrl, .loc 2 0 a0.ahead.length, .mref 3]), (1, .lst true none (List.map (eL none (D.int .u64)) a0.switches)), (2, .lst false none (List.map (eL none (D.int .u64)) a0.ahead)), (3, .mp (eM (D.int .i64) (D.int .i64) a0.last)), (4, .var [vi x1.What, vi x1.Switch, vh x1.Hop.In.a0, vh x1.Hop.In.a1, vh x1.Hop.In.a2, vh x1.Hop.In.a3, vh x1.Hop.In.a4, vh x1.Hop.In.a5, vh x1.Hop.In.a6, vh x1.Hop.In.a7, vb x1.Hop.Fresh, vh x1.Hop.Tag, .d (.int .u64 x1.Hop.Was), .d (.int .u64 x1.Hop.Now), .d (.int .u64 x1.Hop.New), .d (eL (some 8) (eA8 (D.int .u16)) x1.Hop.Out), vi x1.Hop.Err, vi x1.Path])], 5⟩ ?_ ?_
  ·
   replace h := hv
   refine NWp.opsJ ⟨tab [(0, .ptr 0 0 0), (1, vi a1), (5, .ptr 4 0 0), (6, vl2 x2), (7, vi r3.1), (40, vb (r3.2.1 && (x1.Hop.Err == 0)))], stab [(0, .var [vl1 r3.2.2.2.paths, vl0 r3.2.2.2.h, .loc 1 0 a0.switches.length, vl2 r3.2.2.2.ctrl, .loc 2 0 a0.ahead.length, .mref 3]), (1, .lst true none (List.map (eL none (D.int .u64)) a0.switches)), (2, .lst false none (List.map (eL none (D.int .u64)) a0.ahead)), (3, .mp (eM (D.int .i64) (D.int .i64) a0.last)), (4, .var [vi x1.What, vi x1.Switch, vh x1.Hop.In.a0, vh x1.Hop.In.a1, vh x1.Hop.In.a2, vh x1.Hop.In.a3, vh x1.Hop.In.a4, vh x1.Hop.In.a5, vh x1.Hop.In.a6, vh x1.Hop.In.a7, vb x1.Hop.Fresh, vh x1.Hop.Tag, .d (.int .u64 x1.Hop.Was), .d (.int .u64 x1.Hop.Now), .d (.int .u64 x1.Hop.New), .d (eL (some 8) (eA8 (D.int .u16)) x1.Hop.Out), vi x1.Hop.Err, vi x1.Path])], 5⟩ ?_ ?_
   ·
    iterate 2 refine q1 _ ?_
    by_cases hg5 : r3.2.1 = true
    ·
     refine qG _ hg5 ?_
     refine q1 _ ?_
     refine qG _ hg5 ?_
     refine q1 _ ?_
     refine qG _ hg5 ?_
     refine q1 _ ?_
     refine qG _ hg5 ?_
     refine q1 _ ?_
     refine step (v := vb (x1.Hop.Err == 0)) (st_pickT (b := r3.2.1) rfl hg5 rfl) ?_
     exact RunOps.nil' (nm [0, 1, 2, 3, 4] ⟨.pt 0, .d _, .pt 4, .d _, .d _, .eq (by first | (simp [hg5]; done) | (simp_all; done) | grind), trivial⟩ ⟨⟨show 0 < 5 by decide, _, rfl, .vars ⟨.d _, .d _, .lc 1, .d _, .lc 2, .mref 3 (show 3 < 5 by decide), trivial⟩⟩, ⟨show 1 < 5 by decide, _, rfl, .lst _ _ _⟩, ⟨show 2 < 5 by decide, _, rfl, .lst _ _ _⟩, ⟨show 3 < 5 by decide, _, rfl, .mp _⟩, ⟨show 4 < 5 by decide, _, rfl, .vars ⟨.d _, .d _, .d _, .d _, .d _, .d _, .d _, .d _, .d _, .d _, .d _, .d _, .d _, .d _, .d _, .d _, .d _, .d _, trivial⟩⟩, trivial⟩)
    ·
     iterate 4 refine qX _ hg5 ?_
     refine step (v := vb false) (st_pickF (b := r3.2.1) rfl hg5 rfl) ?_
     exact RunOps.nil' (nm [0, 1, 2, 3, 4] ⟨.pt 0, .d _, .pt 4, .d _, .d _, .eq (by first | (simp [hg5]; done) | (simp_all; done) | grind), trivial⟩ ⟨⟨show 0 < 5 by decide, _, rfl, .vars ⟨.d _, .d _, .lc 1, .d _, .lc 2, .mref 3 (show 3 < 5 by decide), trivial⟩⟩, ⟨show 1 < 5 by decide, _, rfl, .lst _ _ _⟩, ⟨show 2 < 5 by decide, _, rfl, .lst _ _ _⟩, ⟨show 3 < 5 by decide, _, rfl, .mp _⟩, ⟨show 4 < 5 by decide, _, rfl, .vars ⟨.d _, .d _, .d _, .d _, .d _, .d _, .d _, .d _, .d _, .d _, .d _, .d _, .d _, .d _, .d _, .d _, .d _, .d _, trivial⟩⟩, trivial⟩)
   by_cases hc6 : (r3.2.1 && (x1.Hop.Err == 0)) = true
   ·
    replace h := iteT hc6 h
    refine NWp.condT (t := (r3.2.1 && (x1.Hop.Err == 0))) rfl hc6 ?_
    obtain ⟨x7, hx7, h⟩ := bindE h
    obtain ⟨r8, hr8, h⟩ := bindE h
    obtain ⟨r9, hr9, h⟩ := bindE h
    have hh := Option.some.inj h
    subst hh
    refine NWp.opsE ⟨tab [(0, .ptr 0 0 0), (1, vi a1), (5, .ptr 4 0 0), (6, vl2 r9)], stab [(0, .var [vl1 r3.2.2.2.paths, vl0 r3.2.2.2.h, .loc 1 0 a0.switches.length, vl2 r3.2.2.2.ctrl, .loc 2 0 a0.ahead.length, .mref 3]), (1, .lst true none (List.map (eL none (D.int .u64)) a0.switches)), (2, .lst false none (List.map (eL none (D.int .u64)) a0.ahead)), (3, .mp (eM (D.int .i64) (D.int .i64) a0.last)), (4, .var [vi x1.What, vi x1.Switch, vh x1.Hop.In.a0, vh x1.Hop.In.a1, vh x1.Hop.In.a2, vh x1.Hop.In.a3, vh x1.Hop.In.a4, vh x1.Hop.In.a5, vh x1.Hop.In.a6, vh x1.Hop.In.a7, vb x1.Hop.Fresh, vh x1.Hop.Tag, .d (.int .u64 x1.Hop.Was), .d (.int .u64 x1.Hop.Now), .d (.int .u64 x1.Hop.New), .d (eL (some 8) (eA8 (D.int .u16)) x1.Hop.Out), vi x1.Hop.Err, vi x1.Path])], 5⟩ ?_ ?_
    ·
     iterate 6 refine q1 _ ?_
     refine step (v := .ptr 2 r3.1.toNat 0) (st_iaddrL (xs := a0.ahead) (e := (eL none (D.int .u64))) hx7 rfl rfl rfl rfl) ?_
     refine step (v := vl2 x7) (st_loadL (xs := a0.ahead) (e := (eL none (D.int .u64))) hx7 rfl rfl rfl) ?_
     refine stepC (r := eL none (D.int .u64) r8) (ArgsOk.dt (ArgsOk.dt ArgsOk.nil')) (c_cause_steps_with hr8) ?_
     refine q1 _ ?_
     refine stepC (r := eL none (D.int .u64) r9) (ArgsOk.dt (ArgsOk.dt ArgsOk.nil')) (c_cause_steps_and hr9) ?_
     refine q1 _ ?_
     exact RunOps.nil' (nm [0, 1, 2, 3, 4] ⟨.pt 0, .d _, .pt 4, .d _, trivial⟩ ⟨⟨show 0 < 5 by decide, _, rfl, .vars ⟨.d _, .d _, .lc 1, .d _, .lc 2, .mref 3 (show 3 < 5 by decide), trivial⟩⟩, ⟨show 1 < 5 by decide, _, rfl, .lst _ _ _⟩, ⟨show 2 < 5 by decide, _, rfl, .lst _ _ _⟩, ⟨show 3 < 5 by decide, _, rfl, .mp _⟩, ⟨show 4 < 5 by decide, _, rfl, .vars ⟨.d _, .d _, .d _, .d _, .d _, .d _, .d _, .d _, .d _, .d _, .d _, .d _, .d _, .d _, .d _, .d _, .d _, .d _, trivial⟩⟩, trivial⟩)
    exact And.intro rfl rfl
   ·
    replace h := iteF hc6 h
    refine NWp.condF (t := (r3.2.1 && (x1.Hop.Err == 0))) rfl hc6 ?_
    have hh := Option.some.inj h
    subst hh
    refine NWp.norm (s0 := ⟨tab [(0, .ptr 0 0 0), (1, vi a1), (5, .ptr 4 0 0), (6, vl2 x2)], stab [(0, .var [vl1 r3.2.2.2.paths, vl0 r3.2.2.2.h, .loc 1 0 a0.switches.length, vl2 r3.2.2.2.ctrl, .loc 2 0 a0.ahead.length, .mref 3]), (1, .lst true none (List.map (eL none (D.int .u64)) a0.switches)), (2, .lst false none (List.map (eL none (D.int .u64)) a0.ahead)), (3, .mp (eM (D.int .i64) (D.int .i64) a0.last)), (4, .var [vi x1.What, vi x1.Switch, vh x1.Hop.In.a0, vh x1.Hop.In.a1, vh x1.Hop.In.a2, vh x1.Hop.In.a3, vh x1.Hop.In.a4, vh x1.Hop.In.a5, vh x1.Hop.In.a6, vh x1.Hop.In.a7, vb x1.Hop.Fresh, vh x1.Hop.Tag, .d (.int .u64 x1.Hop.Was), .d (.int .u64 x1.Hop.Now), .d (.int .u64 x1.Hop.New), .d (eL (some 8) (eA8 (D.int .u16)) x1.Hop.Out), vi x1.Hop.Err, vi x1.Path])], 5⟩) (nm [0, 1, 2, 3, 4] ⟨.pt 0, .d _, .pt 4, .d _, trivial⟩ ⟨⟨show 0 < 5 by decide, _, rfl, .vars ⟨.d _, .d _, .lc 1, .d _, .lc 2, .mref 3 (show 3 < 5 by decide), trivial⟩⟩, ⟨show 1 < 5 by decide, _, rfl, .lst _ _ _⟩, ⟨show 2 < 5 by decide, _, rfl, .lst _ _ _⟩, ⟨show 3 < 5 by decide, _, rfl, .mp _⟩, ⟨show 4 < 5 by decide, _, rfl, .vars ⟨.d _, .d _, .d _, .d _, .d _, .d _, .d _, .d _, .d _, .d _, .d _, .d _, .d _, .d _, .d _, .d _, .d _, .d _, trivial⟩⟩, trivial⟩) ?_
    refine NWp.skip ?_
    exact And.intro rfl rfl
  obtain ⟨l12, hl12, h⟩ := bindE h
  refine NWp.opsJ ⟨tab [(0, .ptr 0 0 0), (1, vi a1), (5, .ptr 5 0 0), (6, vl2 y10)], stab [(0, .var [vl1 r3.2.2.2.paths, vl0 r3.2.2.2.h, .loc 1 0 a0.switches.length, vl2 r3.2.2.2.ctrl, .loc 4 0 l12.length, .mref 3]), (1, .lst true none (List.map (eL none (D.int .u64)) a0.switches)), (3, .mp (eM (D.int .i64) (D.int .i64) a0.last)), (4, .lst false none (List.map (eL none (D.int .u64)) l12)), (5, .var [vi x1.What, vi x1.Switch, vh x1.Hop.In.a0, vh x1.Hop.In.a1, vh x1.Hop.In.a2, vh x1.Hop.In.a3, vh x1.Hop.In.a4, vh x1.Hop.In.a5, vh x1.Hop.In.a6, vh x1.Hop.In.a7, vb x1.Hop.Fresh, vh x1.Hop.Tag, .d (.int .u64 x1.Hop.Was), .d (.int .u64 x1.Hop.Now), .d (.int .u64 x1.Hop.New), .d (eL (some 8) (eA8 (D.int .u16)) x1.Hop.Out), vi x1.Hop.Err, vi x1.Path])], 6⟩ ?_ ?_
  ·
   iterate 7 refine q1 _ ?_
   refine step (v := .loc 5 0 l12.length) (σ' := (upd (upd (stab [(0, .var [vl1 r3.2.2.2.paths, vl0 r3.2.2.2.h, .loc 1 0 a0.switches.length, vl2 r3.2.2.2.ctrl, .loc 2 0 a0.ahead.length, .mref 3]), (1, .lst true none (List.map (eL none (D.int .u64)) a0.switches)), (2, .lst false none (List.map (eL none (D.int .u64)) a0.ahead)), (3, .mp (eM (D.int .i64) (D.int .i64) a0.last)), (4, .var [vi x1.What, vi x1.Switch, vh x1.Hop.In.a0, vh x1.Hop.In.a1, vh x1.Hop.In.a2, vh x1.Hop.In.a3, vh x1.Hop.In.a4, vh x1.Hop.In.a5, vh x1.Hop.In.a6, vh x1.Hop.In.a7, vb x1.Hop.Fresh, vh x1.Hop.Tag, .d (.int .u64 x1.Hop.Was), .d (.int .u64 x1.Hop.Now), .d (.int .u64 x1.Hop.New), .d (eL (some 8) (eA8 (D.int .u16)) x1.Hop.Out), vi x1.Hop.Err, vi x1.Path])]) 2 none) 5 (some (.lst false none (List.map (eL none (D.int .u64)) l12))))) (n' := 6) (st_app (xs := a0.ahead) (ys := ([y10] : List (List Int))) (e := (eL none (D.int .u64))) hl12 rfl rfl rfl (src_v (xs := ([y10] : List (List Int))) (e := (eL none (D.int .u64))) rfl)) ?_
   iterate 2 refine q1 _ ?_
   refine step (v := V.undef) (σ' := (upd (upd (upd (stab [(0, .var [vl1 r3.2.2.2.paths, vl0 r3.2.2.2.h, .loc 1 0 a0.switches.length, vl2 r3.2.2.2.ctrl, .loc 2 0 a0.ahead.length, .mref 3]), (1, .lst true none (List.map (eL none (D.int .u64)) a0.switches)), (2, .lst false none (List.map (eL none (D.int .u64)) a0.ahead)), (3, .mp (eM (D.int .i64) (D.int .i64) a0.last)), (4, .var [vi x1.What, vi x1.Switch, vh x1.Hop.In.a0, vh x1.Hop.In.a1, vh x1.Hop.In.a2, vh x1.Hop.In.a3, vh x1.Hop.In.a4, vh x1.Hop.In.a5, vh x1.Hop.In.a6, vh x1.Hop.In.a7, vb x1.Hop.Fresh, vh x1.Hop.Tag, .d (.int .u64 x1.Hop.Was), .d (.int .u64 x1.Hop.Now), .d (.int .u64 x1.Hop.New), .d (eL (some 8) (eA8 (D.int .u16)) x1.Hop.Out), vi x1.Hop.Err, vi x1.Path])]) 2 none) 5 (some (.lst false none (List.map (eL none (D.int .u64)) l12)))) 0 (some (.var [vl1 r3.2.2.2.paths, vl0 r3.2.2.2.h, .loc 1 0 a0.switches.length, vl2 r3.2.2.2.ctrl, .loc 5 0 l12.length, .mref 3])))) (n' := 6) rfl ?_
   exact RunOps.nil' (nm [0, 1, 2, 3, 5, 4] ⟨.pt 0, .d _, .pt 5, .d _, trivial⟩ ⟨⟨show 0 < 6 by decide, _, rfl, .vars ⟨.d _, .d _, .lc 1, .d _, .lc 4, .mref 3 (show 3 < 6 by decide), trivial⟩⟩, ⟨show 1 < 6 by decide, _, rfl, .lst _ _ _⟩, ⟨show 3 < 6 by decide, _, rfl, .mp _⟩, ⟨show 4 < 6 by decide, _, rfl, .lst _ _ _⟩, ⟨show 5 < 6 by decide, _, rfl, .vars ⟨.d _, .d _, .d _, .d _, .d _, .d _, .d _, .d _, .d _, .d _, .d _, .d _, .d _, .d _, .d _, .d _, .d _, .d _, trivial⟩⟩, trivial⟩)
  obtain ⟨r13, hr13, h⟩ := bindE h
  obtain ⟨l14, hl14, h⟩ := bindE h
  refine NWp.opsJ ⟨tab [(0, .ptr 0 0 0), (1, vi a1), (5, .ptr 5 0 0)], stab [(0, .var [vl1 r3.2.2.2.paths, vl0 r3.2.2.2.h, .loc 1 0 l14.length, vl2 r3.2.2.2.ctrl, .loc 4 0 l12.length, .mref 3]), (1, .lst true none (List.map (eL none (D.int .u64)) l14)), (3, .mp (eM (D.int .i64) (D.int .i64) a0.last)), (4, .lst false none (List.map (eL none (D.int .u64)) l12)), (5, .var [vi x1.What, vi x1.Switch, vh x1.Hop.In.a0, vh x1.Hop.In.a1, vh x1.Hop.In.a2, vh x1.Hop.In.a3, vh x1.Hop.In.a4, vh x1.Hop.In.a5, vh x1.Hop.In.a6, vh x1.Hop.In.a7, vb x1.Hop.Fresh, vh x1.Hop.Tag, .d (.int .u64 x1.Hop.Was), .d (.int .u64 x1.Hop.Now), .d (.int .u64 x1.Hop.New), .d (eL (some 8) (eA8 (D.int .u16)) x1.Hop.Out), vi x1.Hop.Err, vi x1.Path])], 6⟩ ?_ ?_
  ·
   iterate 8 refine q1 _ ?_
   refine stepC (r := eL none (D.int .u64) r13) (ArgsOk.dt (ArgsOk.dt ArgsOk.nil')) (c_cause_steps_and hr13) ?_
   refine step (v := .ptr 1 x1.Switch.toNat 0) (st_iaddrL (xs := a0.switches) (e := (eL none (D.int .u64))) hx2 rfl rfl rfl rfl) ?_
   refine step (v := V.undef) (σ' := (upd (stab [(0, .var [vl1 r3.2.2.2.paths, vl0 r3.2.2.2.h, .loc 1 0 a0.switches.length, vl2 r3.2.2.2.ctrl, .loc 4 0 l12.length, .mref 3]), (1, .lst true none (List.map (eL none (D.int .u64)) a0.switches)), (3, .mp (eM (D.int .i64) (D.int .i64) a0.last)), (4, .lst false none (List.map (eL none (D.int .u64)) l12)), (5, .var [vi x1.What, vi x1.Switch, vh x1.Hop.In.a0, vh x1.Hop.In.a1, vh x1.Hop.In.a2, vh x1.Hop.In.a3, vh x1.Hop.In.a4, vh x1.Hop.In.a5, vh x1.Hop.In.a6, vh x1.Hop.In.a7, vb x1.Hop.Fresh, vh x1.Hop.Tag, .d (.int .u64 x1.Hop.Was), .d (.int .u64 x1.Hop.Now), .d (.int .u64 x1.Hop.New), .d (eL (some 8) (eA8 (D.int .u16)) x1.Hop.Out), vi x1.Hop.Err, vi x1.Path])]) 1 (some (.lst true none (List.map (eL none (D.int .u64)) l14))))) (n' := 6) (st_storeL' (e := (eL none (D.int .u64))) (v' := r13) hl14 rfl rfl rfl rfl rfl) ?_
   exact RunOps.nil' (nm [0, 1, 2, 3, 4, 5] ⟨.pt 0, .d _, .pt 5, trivial⟩ ⟨⟨show 0 < 6 by decide, _, rfl, .vars ⟨.d _, .d _, .le (id := 1) (gput_len hl14).symm (show 1 < 6 by decide), .d _, .lc 4, .mref 3 (show 3 < 6 by decide), trivial⟩⟩, ⟨show 1 < 6 by decide, _, rfl, .lst _ _ _⟩, ⟨show 3 < 6 by decide, _, rfl, .mp _⟩, ⟨show 4 < 6 by decide, _, rfl, .lst _ _ _⟩, ⟨show 5 < 6 by decide, _, rfl, .vars ⟨.d _, .d _, .d _, .d _, .d _, .d _, .d _, .d _, .d _, .d _, .d _, .d _, .d _, .d _, .d _, .d _, .d _, .d _, trivial⟩⟩, trivial⟩)
  obtain ⟨m16, hv, h⟩ := bindE h
  refine NWp.seqN ⟨tab [], stab [(0, .var [vl1 r3.2.2.2.paths, vl0 r3.2.2.2.h, .loc 1 0 l14.length, vl2 r3.2.2.2.ctrl, .loc 4 0 l12.length, .mref 3]), (1, .lst true none (List.map (eL none (D.int .u64)) l14)), (3, .mp (eM (D.int .i64) (D.int .i64) m16)), (4, .lst false none (List.map (eL none (D.int .u64)) l12))], 5⟩ ?_ ?_
  ·
   replace h := hv
   refine NWp.opsJ ⟨tab [(0, .ptr 0 0 0), (1, vi a1), (5, .ptr 5 0 0), (74, vb (decide (x1.Path ≥ 0)))], stab [(0, .var [vl1 r3.2.2.2.paths, vl0 r3.2.2.2.h, .loc 1 0 l14.length, vl2 r3.2.2.2.ctrl, .loc 4 0 l12.length, .mref 3]), (1, .lst true none (List.map (eL none (D.int .u64)) l14)), (3, .mp (eM (D.int .i64) (D.int .i64) a0.last)), (4, .lst false none (List.map (eL none (D.int .u64)) l12)), (5, .var [vi x1.What, vi x1.Switch, vh x1.Hop.In.a0, vh x1.Hop.In.a1, vh x1.Hop.In.a2, vh x1.Hop.In.a3, vh x1.Hop.In.a4, vh x1.Hop.In.a5, vh x1.Hop.In.a6, vh x1.Hop.In.a7, vb x1.Hop.Fresh, vh x1.Hop.Tag, .d (.int .u64 x1.Hop.Was), .d (.int .u64 x1.Hop.Now), .d (.int .u64 x1.Hop.New), .d (eL (some 8) (eA8 (D.int .u16)) x1.Hop.Out), vi x1.Hop.Err, vi x1.Path])], 6⟩ ?_ ?_
   ·
    iterate 3 refine q1 _ ?_
    exact RunOps.nil' (nm [0, 1, 2, 3, 4, 5] ⟨.pt 0, .d _, .pt 5, .d _, trivial⟩ ⟨⟨show 0 < 6 by decide, _, rfl, .vars ⟨.d _, .d _, .lc 1, .d _, .lc 4, .mref 3 (show 3 < 6 by decide), trivial⟩⟩, ⟨show 1 < 6 by decide, _, rfl, .lst _ _ _⟩, ⟨show 3 < 6 by decide, _, rfl, .mp _⟩, ⟨show 4 < 6 by decide, _, rfl, .lst _ _ _⟩, ⟨show 5 < 6 by decide, _, rfl, .vars ⟨.d _, .d _, .d _, .d _, .d _, .d _, .d _, .d _, .d _, .d _, .d _, .d _, .d _, .d _, .d _, .d _, .d _, .d _, trivial⟩⟩, trivial⟩)
   by_cases hc15 : decide (x1.Path ≥ 0) = true
   ·
    replace h := iteT hc15 h
    refine NWp.condT (t := decide (x1.Path ≥ 0)) rfl hc15 ?_
    have hh := Option.some.inj h
    subst hh
    refine NWp.opsE ⟨tab [], stab [(0, .var [vl1 r3.2.2.2.paths, vl0 r3.2.2.2.h, .loc 1 0 l14.length, vl2 r3.2.2.2.ctrl, .loc 4 0 l12.length, .mref 3]), (1, .lst true none (List.map (eL none (D.int .u64)) l14)), (3, .mp (eM (D.int .i64) (D.int .i64) (mput a0.last x1.Path a1))), (4, .lst false none (List.map (eL none (D.int .u64)) l12))], 5⟩ ?_ ?_
    ·
     iterate 7 refine q1 _ ?_
     refine step (v := V.undef) (σ' := (upd (stab [(0, .var [vl1 r3.2.2.2.paths, vl0 r3.2.2.2.h, .loc 1 0 l14.length, vl2 r3.2.2.2.ctrl, .loc 4 0 l12.length, .mref 3]), (1, .lst true none (List.map (eL none (D.int .u64)) l14)), (3, .mp (eM (D.int .i64) (D.int .i64) a0.last)), (4, .lst false none (List.map (eL none (D.int .u64)) l12)), (5, .var [vi x1.What, vi x1.Switch, vh x1.Hop.In.a0, vh x1.Hop.In.a1, vh x1.Hop.In.a2, vh x1.Hop.In.a3, vh x1.Hop.In.a4, vh x1.Hop.In.a5, vh x1.Hop.In.a6, vh x1.Hop.In.a7, vb x1.Hop.Fresh, vh x1.Hop.Tag, .d (.int .u64 x1.Hop.Was), .d (.int .u64 x1.Hop.Now), .d (.int .u64 x1.Hop.New), .d (eL (some 8) (eA8 (D.int .u16)) x1.Hop.Out), vi x1.Hop.Err, vi x1.Path])]) 3 (some (.mp (eM (D.int .i64) (D.int .i64) (mput a0.last x1.Path a1)))))) (n' := 6) (st_mset (ev := (D.int .i64)) (m := a0.last) (k := x1.Path) (w := a1) (key_int .i64) rfl rfl rfl rfl) ?_
     exact RunOps.nil' (nm [0, 1, 2, 3, 4] trivial ⟨⟨show 0 < 5 by decide, _, rfl, .vars ⟨.d _, .d _, .lc 1, .d _, .lc 4, .mref 3 (show 3 < 5 by decide), trivial⟩⟩, ⟨show 1 < 5 by decide, _, rfl, .lst _ _ _⟩, ⟨show 3 < 5 by decide, _, rfl, .mp _⟩, ⟨show 4 < 5 by decide, _, rfl, .lst _ _ _⟩, trivial⟩)
    exact And.intro rfl rfl
   ·
    replace h := iteF hc15 h
    refine NWp.condF (t := decide (x1.Path ≥ 0)) rfl hc15 ?_
    have hh := Option.some.inj h
    subst hh
    refine NWp.norm (s0 := ⟨tab [], stab [(0, .var [vl1 r3.2.2.2.paths, vl0 r3.2.2.2.h, .loc 1 0 l14.length, vl2 r3.2.2.2.ctrl, .loc 4 0 l12.length, .mref 3]), (1, .lst true none (List.map (eL none (D.int .u64)) l14)), (3, .mp (eM (D.int .i64) (D.int .i64) a0.last)), (4, .lst false none (List.map (eL none (D.int .u64)) l12))], 5⟩) (nm [0, 1, 2, 3, 4] trivial ⟨⟨show 0 < 5 by decide, _, rfl, .vars ⟨.d _, .d _, .lc 1, .d _, .lc 4, .mref 3 (show 3 < 5 by decide), trivial⟩⟩, ⟨show 1 < 5 by decide, _, rfl, .lst _ _ _⟩, ⟨show 3 < 5 by decide, _, rfl, .mp _⟩, ⟨show 4 < 5 by decide, _, rfl, .lst _ _ _⟩, trivial⟩) ?_
    refine NWp.skip ?_
    exact And.intro rfl rfl
  refine NWp.opsJ ⟨tab [(4, vb true)], stab [(0, .var [vl1 r3.2.2.2.paths, vl0 r3.2.2.2.h, .loc 1 0 l14.length, vl2 r3.2.2.2.ctrl, .loc 4 0 l12.length, .mref 3]), (1, .lst true none (List.map (eL none (D.int .u64)) l14)), (3, .mp (eM (D.int .i64) (D.int .i64) m16)), (4, .lst false none (List.map (eL none (D.int .u64)) l12))], 5⟩ ?_ ?_
  ·
   refine q1 _ ?_
   exact RunOps.nil' (nm [0, 1, 2, 3, 4] ⟨.d _, trivial⟩ ⟨⟨show 0 < 5 by decide, _, rfl, .vars ⟨.d _, .d _, .lc 1, .d _, .lc 4, .mref 3 (show 3 < 5 by decide), trivial⟩⟩, ⟨show 1 < 5 by decide, _, rfl, .lst _ _ _⟩, ⟨show 3 < 5 by decide, _, rfl, .mp _⟩, ⟨show 4 < 5 by decide, _, rfl, .lst _ _ _⟩, trivial⟩)
  have hh := Option.some.inj h
  subst hh
  refine NWp.ret ?_
  exact ⟨.inr rfl, _, rfl, rfl, AllS.sub ⟨rfl, rfl, rfl, rfl, trivial⟩, rfl⟩

theorem c_cause_looker_one {a0 : cause_looker} {a1 : Int} {r : (Bool × cause_looker)} (h : cause_looker_one a0 a1 = some r) : SCall Tryd.prog 21 [.ptr 0 0 0, vi a1] (stab [(0, .var [vl1 a0.paths, vl0 a0.h, .loc 1 0 a0.switches.length, vl2 a0.ctrl, .loc 2 0 a0.ahead.length, .mref 3]), (1, .lst true none (List.map (eL none (D.int .u64)) a0.switches)), (2, .lst false none (List.map (eL none (D.int .u64)) a0.ahead)), (3, .mp (eM (D.int .i64) (D.int .i64) a0.last))]) 4 (vb r.1) (stab [(0, .var [vl1 r.2.paths, vl0 r.2.h, .loc 1 0 r.2.switches.length, vl2 r.2.ctrl, .loc 4 0 r.2.ahead.length, .mref 3]), (1, .lst true none (List.map (eL none (D.int .u64)) r.2.switches)), (3, .mp (eM (D.int .i64) (D.int .i64) r.2.last)), (4, .lst false none (List.map (eL none (D.int .u64)) r.2.ahead))]) 5 := by
 refine SCall.introN (bl := [(0, .var [vl1 a0.paths, vl0 a0.h, .loc 1 0 a0.switches.length, vl2 a0.ctrl, .loc 2 0 a0.ahead.length, .mref 3]), (1, .lst true none (List.map (eL none (D.int .u64)) a0.switches)), (2, .lst false none (List.map (eL none (D.int .u64)) a0.ahead)), (3, .mp (eM (D.int .i64) (D.int .i64) a0.last))]) (bl' := [(0, .var [vl1 r.2.paths, vl0 r.2.h, .loc 1 0 r.2.switches.length, vl2 r.2.ctrl, .loc 4 0 r.2.ahead.length, .mref 3]), (1, .lst true none (List.map (eL none (D.int .u64)) r.2.switches)), (3, .mp (eM (D.int .i64) (D.int .i64) r.2.last)), (4, .lst false none (List.map (eL none (D.int .u64)) r.2.ahead))]) ok21 (show 2 ≤ 97 by decide) rfl ?_
 refine NWp.norm (s0 := ⟨tab [(0, .ptr 0 0 0), (1, vi a1)], stab [(0, .var [vl1 a0.paths, vl0 a0.h, .loc 1 0 a0.switches.length, vl2 a0.ctrl, .loc 2 0 a0.ahead.length, .mref 3]), (1, .lst true none (List.map (eL none (D.int .u64)) a0.switches)), (2, .lst false none (List.map (eL none (D.int .u64)) a0.ahead)), (3, .mp (eM (D.int .i64) (D.int .i64) a0.last))], 4⟩) (nm [0, 1, 2, 3] ⟨.pt 0, .d _, trivial⟩ ⟨⟨show 0 < 4 by decide, _, rfl, .vars ⟨.d _, .d _, .lc 1, .d _, .lc 2, .mref 3 (show 3 < 4 by decide), trivial⟩⟩, ⟨show 1 < 4 by decide, _, rfl, .lst _ _ _⟩, ⟨show 2 < 4 by decide, _, rfl, .lst _ _ _⟩, ⟨show 3 < 4 by decide, _, rfl, .mp _⟩, trivial⟩) ?_
 refine NWp.opsJ ⟨tab [(0, .ptr 0 0 0), (1, vi a1)], stab [(0, .var [vl1 a0.paths, vl0 a0.h, .loc 1 0 a0.switches.length, vl2 a0.ctrl, .loc 2 0 a0.ahead.length, .mref 3]), (1, .lst true none (List.map (eL none (D.int .u64)) a0.switches)), (2, .lst false none (List.map (eL none (D.int .u64)) a0.ahead)), (3, .mp (eM (D.int .i64) (D.int .i64) a0.last))], 4⟩ ?_ ?_
 ·
  refine q1 _ ?_
  exact RunOps.nil' (nm [0, 1, 2, 3] ⟨.pt 0, .d _, trivial⟩ ⟨⟨show 0 < 4 by decide, _, rfl, .vars ⟨.d _, .d _, .lc 1, .d _, .lc 2, .mref 3 (show 3 < 4 by decide), trivial⟩⟩, ⟨show 1 < 4 by decide, _, rfl, .lst _ _ _⟩, ⟨show 2 < 4 by decide, _, rfl, .lst _ _ _⟩, ⟨show 3 < 4 by decide, _, rfl, .mp _⟩, trivial⟩)
 obtain ⟨x1, hx1, h⟩ := bindE h
 refine NWp.opsJ ⟨tab [(0, .ptr 0 0 0), (1, vi a1), (5, .ptr 4 0 0)], stab [(0, .var [vl1 a0.paths, vl0 a0.h, .loc 1 0 a0.switches.length, vl2 a0.ctrl, .loc 2 0 a0.ahead.length, .mref 3]), (1, .lst true none (List.map (eL none (D.int .u64)) a0.switches)), (2, .lst false none (List.map (eL none (D.int .u64)) a0.ahead)), (3, .mp (eM (D.int .i64) (D.int .i64) a0.last)), (4, .var [vi x1.What, vi x1.Switch, vh x1.Hop.In.a0, vh x1.Hop.In.a1, vh x1.Hop.In.a2, vh x1.Hop.In.a3, vh x1.Hop.In.a4, vh x1.Hop.In.a5, vh x1.Hop.In.a6, vh x1.Hop.In.a7, vb x1.Hop.Fresh, vh x1.Hop.Tag, .d (.int .u64 x1.Hop.Was), .d (.int .u64 x1.Hop.Now), .d (.int .u64 x1.Hop.New), .d (eL (some 8) (eA8 (D.int .u16)) x1.Hop.Out), vi x1.Hop.Err, vi x1.Path])], 5⟩ ?_ ?_
 ·
  iterate 5 refine q1 _ ?_
  refine step (v := vp0 x1) (st_iaddr (xs := a0.h) (e := eapi_Step) hx1 rfl rfl) ?_
  refine q1 _ ?_
  refine step (v := .ptr 4 0 0) (σ' := (upd (stab [(0, .var [vl1 a0.paths, vl0 a0.h, .loc 1 0 a0.switches.length, vl2 a0.ctrl, .loc 2 0 a0.ahead.length, .mref 3]), (1, .lst true none (List.map (eL none (D.int .u64)) a0.switches)), (2, .lst false none (List.map (eL none (D.int .u64)) a0.ahead)), (3, .mp (eM (D.int .i64) (D.int .i64) a0.last))]) 4 (some (.var [vi 0, vi 0, vh 0, vh 0, vh 0, vh 0, vh 0, vh 0, vh 0, vh 0, vb false, vh 0, .d (.int .u64 0), .d (.int .u64 0), .d (.int .u64 0), .d (eL (some 8) (eA8 (D.int .u16)) []), vi 0, vi 0])))) (n' := 5) rfl ?_
  refine step (v := V.undef) (σ' := (upd (upd (stab [(0, .var [vl1 a0.paths, vl0 a0.h, .loc 1 0 a0.switches.length, vl2 a0.ctrl, .loc 2 0 a0.ahead.length, .mref 3]), (1, .lst true none (List.map (eL none (D.int .u64)) a0.switches)), (2, .lst false none (List.map (eL none (D.int .u64)) a0.ahead)), (3, .mp (eM (D.int .i64) (D.int .i64) a0.last))]) 4 (some (.var [vi 0, vi 0, vh 0, vh 0, vh 0, vh 0, vh 0, vh 0, vh 0, vh 0, vb false, vh 0, .d (.int .u64 0), .d (.int .u64 0), .d (.int .u64 0), .d (eL (some 8) (eA8 (D.int .u16)) []), vi 0, vi 0]))) 4 (some (.var [vi x1.What, vi x1.Switch, vh x1.Hop.In.a0, vh x1.Hop.In.a1, vh x1.Hop.In.a2, vh x1.Hop.In.a3, vh x1.Hop.In.a4, vh x1.Hop.In.a5, vh x1.Hop.In.a6, vh x1.Hop.In.a7, vb x1.Hop.Fresh, vh x1.Hop.Tag, .d (.int .u64 x1.Hop.Was), .d (.int .u64 x1.Hop.Now), .d (.int .u64 x1.Hop.New), .d (eL (some 8) (eA8 (D.int .u16)) x1.Hop.Out), vi x1.Hop.Err, vi x1.Path])))) (n' := 5) rfl ?_
  exact RunOps.nil' (nm [0, 1, 2, 3, 4] ⟨.pt 0, .d _, .pt 4, trivial⟩ ⟨⟨show 0 < 5 by decide, _, rfl, .vars ⟨.d _, .d _, .lc 1, .d _, .lc 2, .mref 3 (show 3 < 5 by decide), trivial⟩⟩, ⟨show 1 < 5 by decide, _, rfl, .lst _ _ _⟩, ⟨show 2 < 5 by decide, _, rfl, .lst _ _ _⟩, ⟨show 3 < 5 by decide, _, rfl, .mp _⟩, ⟨show 4 < 5 by decide, _, rfl, .vars ⟨.d _, .d _, .d _, .d _, .d _, .d _, .d _, .d _, .d _, .d _, .d _, .d _, .d _, .d _, .d _, .d _, .d _, .d _, trivial⟩⟩, trivial⟩)
 refine NWp.seq ?_
 refine NWp.opsJ ⟨tab [(0, .ptr 0 0 0), (1, vi a1), (5, .ptr 4 0 0), (40, vb ((decide (x1.Switch < 0)) || ((decide (x1.Switch ≥ (a0.switches.length : Int))) || ((decide (x1.Path < (-1))) || (decide (x1.Path ≥ (a0.paths.length : Int)))))))], stab [(0, .var [vl1 a0.paths, vl0 a0.h, .loc 1 0 a0.switches.length, vl2 a0.ctrl, .loc 2 0 a0.ahead.length, .mref 3]), (1, .lst true none (List.map (eL none (D.int .u64)) a0.switches)), (2, .lst false none (List.map (eL none (D.int .u64)) a0.ahead)), (3, .mp (eM (D.int .i64) (D.int .i64) a0.last)), (4, .var [vi x1.What, vi x1.Switch, vh x1.Hop.In.a0, vh x1.Hop.In.a1, vh x1.Hop.In.a2, vh x1.Hop.In.a3, vh x1.Hop.In.a4, vh x1.Hop.In.a5, vh x1.Hop.In.a6, vh x1.Hop.In.a7, vb x1.Hop.Fresh, vh x1.Hop.Tag, .d (.int .u64 x1.Hop.Was), .d (.int .u64 x1.Hop.Now), .d (.int .u64 x1.Hop.New), .d (eL (some 8) (eA8 (D.int .u16)) x1.Hop.Out), vi x1.Hop.Err, vi x1.Path])], 5⟩ ?_ ?_
 ·
  iterate 4 refine q1 _ ?_
  by_cases hg2 : decide (x1.Switch < 0) = true
  ·
   iterate 8 refine qX (decide (x1.Switch < 0)) (by rw [hg2]; decide) ?_
   refine step (v := vb true) (st_pickT (b := decide (x1.Switch < 0)) rfl hg2 rfl) ?_
   refine q1 _ ?_
   iterate 3 refine qX true (by decide) ?_
   refine step (v := vb true) (st_pickT (b := true) rfl rfl rfl) ?_
   refine q1 _ ?_
   iterate 8 refine qX true (by decide) ?_
   refine step (v := vb true) (st_pickT (b := true) rfl rfl rfl) ?_
   exact RunOps.nil' (nm [0, 1, 2, 3, 4] ⟨.pt 0, .d _, .pt 4, .eq (by first | (simp [hg2]; done) | (simp_all; done) | grind), trivial⟩ ⟨⟨show 0 < 5 by decide, _, rfl, .vars ⟨.d _, .d _, .lc 1, .d _, .lc 2, .mref 3 (show 3 < 5 by decide), trivial⟩⟩, ⟨show 1 < 5 by decide, _, rfl, .lst _ _ _⟩, ⟨show 2 < 5 by decide, _, rfl, .lst _ _ _⟩, ⟨show 3 < 5 by decide, _, rfl, .mp _⟩, ⟨show 4 < 5 by decide, _, rfl, .vars ⟨.d _, .d _, .d _, .d _, .d _, .d _, .d _, .d _, .d _, .d _, .d _, .d _, .d _, .d _, .d _, .d _, .d _, .d _, trivial⟩⟩, trivial⟩)
  ·
   refine qG (decide (x1.Switch < 0)) (Bool.eq_false_iff.2 hg2) ?_
   refine q1 _ ?_
   refine qG (decide (x1.Switch < 0)) (Bool.eq_false_iff.2 hg2) ?_
   refine q1 _ ?_
   refine qG (decide (x1.Switch < 0)) (Bool.eq_false_iff.2 hg2) ?_
   refine q1 _ ?_
   refine qG (decide (x1.Switch < 0)) (Bool.eq_false_iff.2 hg2) ?_
   refine q1 _ ?_
   refine qG (decide (x1.Switch < 0)) (Bool.eq_false_iff.2 hg2) ?_
   refine q1 _ ?_
   refine qG (decide (x1.Switch < 0)) (Bool.eq_false_iff.2 hg2) ?_
   refine q1 _ ?_
   refine qG (decide (x1.Switch < 0)) (Bool.eq_false_iff.2 hg2) ?_
   refine q1 _ ?_
   refine qG (decide (x1.Switch < 0)) (Bool.eq_false_iff.2 hg2) ?_
   refine q1 _ ?_
   refine step (v := vb (decide (x1.Switch ≥ (a0.switches.length : Int)))) (st_pickF (b := decide (x1.Switch < 0)) rfl hg2 rfl) ?_
   refine q1 _ ?_
   by_cases hg3 : decide (x1.Switch ≥ (a0.switches.length : Int)) = true
   ·
    iterate 3 refine qX (decide (x1.Switch ≥ (a0.switches.length : Int))) (by rw [hg3]; decide) ?_
    refine step (v := vb true) (st_pickT (b := decide (x1.Switch ≥ (a0.switches.length : Int))) rfl hg3 rfl) ?_
    refine q1 _ ?_
    iterate 8 refine qX true (by decide) ?_
    refine step (v := vb true) (st_pickT (b := true) rfl rfl rfl) ?_
    exact RunOps.nil' (nm [0, 1, 2, 3, 4] ⟨.pt 0, .d _, .pt 4, .eq (by first | (simp [hg2, hg3]; done) | (simp_all; done) | grind), trivial⟩ ⟨⟨show 0 < 5 by decide, _, rfl, .vars ⟨.d _, .d _, .lc 1, .d _, .lc 2, .mref 3 (show 3 < 5 by decide), trivial⟩⟩, ⟨show 1 < 5 by decide, _, rfl, .lst _ _ _⟩, ⟨show 2 < 5 by decide, _, rfl, .lst _ _ _⟩, ⟨show 3 < 5 by decide, _, rfl, .mp _⟩, ⟨show 4 < 5 by decide, _, rfl, .vars ⟨.d _, .d _, .d _, .d _, .d _, .d _, .d _, .d _, .d _, .d _, .d _, .d _, .d _, .d _, .d _, .d _, .d _, .d _, trivial⟩⟩, trivial⟩)
   ·
    refine qG (decide (x1.Switch ≥ (a0.switches.length : Int))) (Bool.eq_false_iff.2 hg3) ?_
    refine q1 _ ?_
    refine qG (decide (x1.Switch ≥ (a0.switches.length : Int))) (Bool.eq_false_iff.2 hg3) ?_
    refine q1 _ ?_
    refine qG (decide (x1.Switch ≥ (a0.switches.length : Int))) (Bool.eq_false_iff.2 hg3) ?_
    refine q1 _ ?_
    refine step (v := vb (decide (x1.Path < (-1)))) (st_pickF (b := decide (x1.Switch ≥ (a0.switches.length : Int))) rfl hg3 rfl) ?_
    refine q1 _ ?_
    by_cases hg4 : decide (x1.Path < (-1)) = true
    ·
     iterate 8 refine qX (decide (x1.Path < (-1))) (by rw [hg4]; decide) ?_
     refine step (v := vb true) (st_pickT (b := decide (x1.Path < (-1))) rfl hg4 rfl) ?_
     exact RunOps.nil' (nm [0, 1, 2, 3, 4] ⟨.pt 0, .d _, .pt 4, .eq (by first | (simp [hg2, hg3, hg4]; done) | (simp_all; done) | grind), trivial⟩ ⟨⟨show 0 < 5 by decide, _, rfl, .vars ⟨.d _, .d _, .lc 1, .d _, .lc 2, .mref 3 (show 3 < 5 by decide), trivial⟩⟩, ⟨show 1 < 5 by decide, _, rfl, .lst _ _ _⟩, ⟨show 2 < 5 by decide, _, rfl, .lst _ _ _⟩, ⟨show 3 < 5 by decide, _, rfl, .mp _⟩, ⟨show 4 < 5 by decide, _, rfl, .vars ⟨.d _, .d _, .d _, .d _, .d _, .d _, .d _, .d _, .d _, .d _, .d _, .d _, .d _, .d _, .d _, .d _, .d _, .d _, trivial⟩⟩, trivial⟩)
    ·
     refine qG (decide (x1.Path < (-1))) (Bool.eq_false_iff.2 hg4) ?_
     refine q1 _ ?_
     refine qG (decide (x1.Path < (-1))) (Bool.eq_false_iff.2 hg4) ?_
     refine q1 _ ?_
     refine qG (decide (x1.Path < (-1))) (Bool.eq_false_iff.2 hg4) ?_
     refine q1 _ ?_
     refine qG (decide (x1.Path < (-1))) (Bool.eq_false_iff.2 hg4) ?_
     refine q1 _ ?_
     refine qG (decide (x1.Path < (-1))) (Bool.eq_false_iff.2 hg4) ?_
     refine q1 _ ?_
     refine qG (decide (x1.Path < (-1))) (Bool.eq_false_iff.2 hg4) ?_
     refine q1 _ ?_
     refine qG (decide (x1.Path < (-1))) (Bool.eq_false_iff.2 hg4) ?_
     refine step (v := vi (a0.paths.length : Int)) (st_len (xs := a0.paths) (e := eapi_Path) rfl) ?_
     refine qG (decide (x1.Path < (-1))) (Bool.eq_false_iff.2 hg4) ?_
     refine q1 _ ?_
     refine step (v := vb (decide (x1.Path ≥ (a0.paths.length : Int)))) (st_pickF (b := decide (x1.Path < (-1))) rfl hg4 rfl) ?_
     exact RunOps.nil' (nm [0, 1, 2, 3, 4] ⟨.pt 0, .d _, .pt 4, .eq (by first | (simp [hg2, hg3, hg4]; done) | (simp_all; done) | grind), trivial⟩ ⟨⟨show 0 < 5 by decide, _, rfl, .vars ⟨.d _, .d _, .lc 1, .d _, .lc 2, .mref 3 (show 3 < 5 by decide), trivial⟩⟩, ⟨show 1 < 5 by decide, _, rfl, .lst _ _ _⟩, ⟨show 2 < 5 by decide, _, rfl, .lst _ _ _⟩, ⟨show 3 < 5 by decide, _, rfl, .mp _⟩, ⟨show 4 < 5 by decide, _, rfl, .vars ⟨.d _, .d _, .d _, .d _, .d _, .d _, .d _, .d _, .d _, .d _, .d _, .d _, .d _, .d _, .d _, .d _, .d _, .d _, trivial⟩⟩, trivial⟩)
 by_cases hc5 : ((decide (x1.Switch < 0)) || ((decide (x1.Switch ≥ (a0.switches.length : Int))) || ((decide (x1.Path < (-1))) || (decide (x1.Path ≥ (a0.paths.length : Int)))))) = true
 ·
  replace h := iteT hc5 h
  refine NWp.condT (t := ((decide (x1.Switch < 0)) || ((decide (x1.Switch ≥ (a0.switches.length : Int))) || ((decide (x1.Path < (-1))) || (decide (x1.Path ≥ (a0.paths.length : Int))))))) rfl hc5 ?_
  refine NWp.opsJ ⟨tab [(4, vb false)], stab [(0, .var [vl1 a0.paths, vl0 a0.h, .loc 1 0 a0.switches.length, vl2 a0.ctrl, .loc 2 0 a0.ahead.length, .mref 3]), (1, .lst true none (List.map (eL none (D.int .u64)) a0.switches)), (2, .lst false none (List.map (eL none (D.int .u64)) a0.ahead)), (3, .mp (eM (D.int .i64) (D.int .i64) a0.last))], 4⟩ ?_ ?_
  ·
   refine q1 _ ?_
   exact RunOps.nil' (nm [0, 1, 2, 3] ⟨.d _, trivial⟩ ⟨⟨show 0 < 4 by decide, _, rfl, .vars ⟨.d _, .d _, .lc 1, .d _, .lc 2, .mref 3 (show 3 < 4 by decide), trivial⟩⟩, ⟨show 1 < 4 by decide, _, rfl, .lst _ _ _⟩, ⟨show 2 < 4 by decide, _, rfl, .lst _ _ _⟩, ⟨show 3 < 4 by decide, _, rfl, .mp _⟩, trivial⟩)
  have hh := Option.some.inj h
  subst hh
  refine NWp.norm (s0 := ⟨tab [(4, vb false)], stab [(0, .var [vl1 a0.paths, vl0 a0.h, .loc 1 0 a0.switches.length, vl2 a0.ctrl, .loc 4 0 a0.ahead.length, .mref 3]), (1, .lst true none (List.map (eL none (D.int .u64)) a0.switches)), (3, .mp (eM (D.int .i64) (D.int .i64) a0.last)), (4, .lst false none (List.map (eL none (D.int .u64)) a0.ahead))], 5⟩) (Norm.mkR [0, 1, 2, 3, 2] [0, 1, 3, 4] (by decide) rfl (by decide) (by decide) ⟨.d _, trivial⟩ ⟨⟨show 0 < 5 by decide, _, rfl, .vars ⟨.d _, .d _, .lc 1, .d _, .lc 4, .mref 3 (show 3 < 5 by decide), trivial⟩⟩, ⟨show 1 < 5 by decide, _, rfl, .lst _ _ _⟩, ⟨show 3 < 5 by decide, _, rfl, .mp _⟩, ⟨show 4 < 5 by decide, _, rfl, .lst _ _ _⟩, trivial⟩) ?_
  refine NWp.ret ?_
  exact ⟨.inr rfl, _, rfl, rfl, AllS.sub ⟨rfl, rfl, rfl, rfl, trivial⟩, rfl⟩
 ·
  replace h := iteF hc5 h
  refine NWp.condF (t := ((decide (x1.Switch < 0)) || ((decide (x1.Switch ≥ (a0.switches.length : Int))) || ((decide (x1.Path < (-1))) || (decide (x1.Path ≥ (a0.paths.length : Int))))))) rfl hc5 ?_
  refine NWp.skip ?_
  obtain ⟨q17, hv, h⟩ := bindE h
  refine NWp.seqS (fun (qq : ((List (List Int)) × (List Int))) => ⟨tab [(0, .ptr 0 0 0)], stab [(0, .var [vl1 a0.paths, vl0 a0.h, .loc 1 0 qq.1.length, vl2 qq.2, .loc 2 0 a0.ahead.length, .mref 3]), (1, .lst true none (List.map (eL none (D.int .u64)) qq.1)), (2, .lst false none (List.map (eL none (D.int .u64)) a0.ahead)), (3, .mp (eM (D.int .i64) (D.int .i64) a0.last))], 4⟩) (xv := q17) (r := r) ?_ ?_ ?_
  ·
   replace h := hv
   refine NWp.opsJ ⟨tab [(0, .ptr 0 0 0), (1, vi a1), (5, .ptr 4 0 0), (42, vi x1.What)], stab [(0, .var [vl1 a0.paths, vl0 a0.h, .loc 1 0 a0.switches.length, vl2 a0.ctrl, .loc 2 0 a0.ahead.length, .mref 3]), (1, .lst true none (List.map (eL none (D.int .u64)) a0.switches)), (2, .lst false none (List.map (eL none (D.int .u64)) a0.ahead)), (3, .mp (eM (D.int .i64) (D.int .i64) a0.last)), (4, .var [vi x1.What, vi x1.Switch, vh x1.Hop.In.a0, vh x1.Hop.In.a1, vh x1.Hop.In.a2, vh x1.Hop.In.a3, vh x1.Hop.In.a4, vh x1.Hop.In.a5, vh x1.Hop.In.a6, vh x1.Hop.In.a7, vb x1.Hop.Fresh, vh x1.Hop.Tag, .d (.int .u64 x1.Hop.Was), .d (.int .u64 x1.Hop.Now), .d (.int .u64 x1.Hop.New), .d (eL (some 8) (eA8 (D.int .u16)) x1.Hop.Out), vi x1.Hop.Err, vi x1.Path])], 5⟩ ?_ ?_
   ·
    iterate 2 refine q1 _ ?_
    exact RunOps.nil' (nm [0, 1, 2, 3, 4] ⟨.pt 0, .d _, .pt 4, .d _, trivial⟩ ⟨⟨show 0 < 5 by decide, _, rfl, .vars ⟨.d _, .d _, .lc 1, .d _, .lc 2, .mref 3 (show 3 < 5 by decide), trivial⟩⟩, ⟨show 1 < 5 by decide, _, rfl, .lst _ _ _⟩, ⟨show 2 < 5 by decide, _, rfl, .lst _ _ _⟩, ⟨show 3 < 5 by decide, _, rfl, .mp _⟩, ⟨show 4 < 5 by decide, _, rfl, .vars ⟨.d _, .d _, .d _, .d _, .d _, .d _, .d _, .d _, .d _, .d _, .d _, .d _, .d _, .d _, .d _, .d _, .d _, .d _, trivial⟩⟩, trivial⟩)
   refine NWp.block ?_
   refine NWp.opsJ ⟨tab [(0, .ptr 0 0 0), (1, vi a1), (5, .ptr 4 0 0), (42, vi x1.What), (43, vb (x1.What == 2))], stab [(0, .var [vl1 a0.paths, vl0 a0.h, .loc 1 0 a0.switches.length, vl2 a0.ctrl, .loc 2 0 a0.ahead.length, .mref 3]), (1, .lst true none (List.map (eL none (D.int .u64)) a0.switches)), (2, .lst false none (List.map (eL none (D.int .u64)) a0.ahead)), (3, .mp (eM (D.int .i64) (D.int .i64) a0.last)), (4, .var [vi x1.What, vi x1.Switch, vh x1.Hop.In.a0, vh x1.Hop.In.a1, vh x1.Hop.In.a2, vh x1.Hop.In.a3, vh x1.Hop.In.a4, vh x1.Hop.In.a5, vh x1.Hop.In.a6, vh x1.Hop.In.a7, vb x1.Hop.Fresh, vh x1.Hop.Tag, .d (.int .u64 x1.Hop.Was), .d (.int .u64 x1.Hop.Now), .d (.int .u64 x1.Hop.New), .d (eL (some 8) (eA8 (D.int .u16)) x1.Hop.Out), vi x1.Hop.Err, vi x1.Path])], 5⟩ ?_ ?_
   ·
    iterate 2 refine q1 _ ?_
    exact RunOps.nil' (nm [0, 1, 2, 3, 4] ⟨.pt 0, .d _, .pt 4, .d _, .d _, trivial⟩ ⟨⟨show 0 < 5 by decide, _, rfl, .vars ⟨.d _, .d _, .lc 1, .d _, .lc 2, .mref 3 (show 3 < 5 by decide), trivial⟩⟩, ⟨show 1 < 5 by decide, _, rfl, .lst _ _ _⟩, ⟨show 2 < 5 by decide, _, rfl, .lst _ _ _⟩, ⟨show 3 < 5 by decide, _, rfl, .mp _⟩, ⟨show 4 < 5 by decide, _, rfl, .vars ⟨.d _, .d _, .d _, .d _, .d _, .d _, .d _, .d _, .d _, .d _, .d _, .d _, .d _, .d _, .d _, .d _, .d _, .d _, trivial⟩⟩, trivial⟩)
   by_cases hc6 : (x1.What == 2) = true
   ·
    replace h := iteT hc6 h
    refine NWp.condT (t := (x1.What == 2)) rfl hc6 ?_
    obtain ⟨r7, hr7, h⟩ := bindE h
    refine NWp.opsJ ⟨tab [(4, vb r7.1)], stab [(0, .var [vl1 r7.2.paths, vl0 r7.2.h, .loc 1 0 r7.2.switches.length, vl2 r7.2.ctrl, .loc 4 0 r7.2.ahead.length, .mref 3]), (1, .lst true none (List.map (eL none (D.int .u64)) r7.2.switches)), (3, .mp (eM (D.int .i64) (D.int .i64) r7.2.last)), (4, .lst false none (List.map (eL none (D.int .u64)) r7.2.ahead))], 5⟩ ?_ ?_
    ·
     iterate 2 refine q1 _ ?_
     refine stepW (v := vb r7.1) (σ' := (upd (upd (upd (upd (upd (upd (upd (upd (stab [(0, .var [vl1 a0.paths, vl0 a0.h, .loc 1 0 a0.switches.length, vl2 a0.ctrl, .loc 2 0 a0.ahead.length, .mref 3]), (1, .lst true none (List.map (eL none (D.int .u64)) a0.switches)), (2, .lst false none (List.map (eL none (D.int .u64)) a0.ahead)), (3, .mp (eM (D.int .i64) (D.int .i64) a0.last)), (4, .var [vi x1.What, vi x1.Switch, vh x1.Hop.In.a0, vh x1.Hop.In.a1, vh x1.Hop.In.a2, vh x1.Hop.In.a3, vh x1.Hop.In.a4, vh x1.Hop.In.a5, vh x1.Hop.In.a6, vh x1.Hop.In.a7, vb x1.Hop.Fresh, vh x1.Hop.Tag, .d (.int .u64 x1.Hop.Was), .d (.int .u64 x1.Hop.Now), .d (.int .u64 x1.Hop.New), .d (eL (some 8) (eA8 (D.int .u16)) x1.Hop.Out), vi x1.Hop.Err, vi x1.Path])]) 3 none) 2 none) 1 none) 0 none) 5 (some (.lst false none (List.map (eL none (D.int .u64)) r7.2.ahead)))) 3 (some (.mp (eM (D.int .i64) (D.int .i64) r7.2.last)))) 1 (some (.lst true none (List.map (eL none (D.int .u64)) r7.2.switches)))) 0 (some (.var [vl1 r7.2.paths, vl0 r7.2.h, .loc 1 0 r7.2.switches.length, vl2 r7.2.ctrl, .loc 5 0 r7.2.ahead.length, .mref 3])))) (n' := 6) (SCall.lift [0, 1, 2, 3] (c_cause_looker_step hr7) (show 4 ≤ 5 by decide) (by decide) (show ∀ i ∈ [0, 1, 2, 3], i < 5 by decide) (dom_c (show 0 < 5 by decide) (dom_c (show 1 < 5 by decide) (dom_c (show 3 < 5 by decide) (dom_c (show 4 < 5 by decide) dom_n)))) (VNs.c (.pt 0) (VNs.c (.d _) VNs.nil0)) (SN.c (show 0 < 4 by decide) rfl (.vars (VNs.c (.d _) (VNs.c (.d _) (VNs.c (.lc 1) (VNs.c (.d _) (VNs.c (.lc 2) (VNs.c (.mref 3 (show 3 < 4 by decide)) VNs.nil0))))))) (SN.c (show 1 < 4 by decide) rfl (.lst _ _ _) (SN.c (show 2 < 4 by decide) rfl (.lst _ _ _) (SN.c (show 3 < 4 by decide) rfl (.mp _) SN.nil0))))) (show 5 ≤ 6 by decide) ?_
     refine q1 _ ?_
     exact RunOps.nil' (nm [0, 1, 2, 3, 5] ⟨.d _, trivial⟩ ⟨⟨show 0 < 5 by decide, _, rfl, .vars ⟨.d _, .d _, .lc 1, .d _, .lc 4, .mref 3 (show 3 < 5 by decide), trivial⟩⟩, ⟨show 1 < 5 by decide, _, rfl, .lst _ _ _⟩, ⟨show 3 < 5 by decide, _, rfl, .mp _⟩, ⟨show 4 < 5 by decide, _, rfl, .lst _ _ _⟩, trivial⟩)
    obtain ⟨r8, kr8, hr⟩ := mapE (o := some (r7.1, r7.2)) (g := Sum.inr) h
    subst hr
    have h := kr8
    have hh := Option.some.inj h
    subst hh
    refine NWp.ret ?_
    refine And.intro (fun hn => nomatch hn) ?_
    intro hq
    have hq := hq.symm
    subst hq
    exact ⟨.inr rfl, _, rfl, rfl, AllS.sub ⟨rfl, rfl, rfl, rfl, trivial⟩, rfl⟩
   ·
    replace h := iteF hc6 h
    refine NWp.condF (t := (x1.What == 2)) rfl hc6 ?_
    refine NWp.opsJ ⟨tab [(0, .ptr 0 0 0), (5, .ptr 4 0 0), (42, vi x1.What), (48, vb (x1.What == 5))], stab [(0, .var [vl1 a0.paths, vl0 a0.h, .loc 1 0 a0.switches.length, vl2 a0.ctrl, .loc 2 0 a0.ahead.length, .mref 3]), (1, .lst true none (List.map (eL none (D.int .u64)) a0.switches)), (2, .lst false none (List.map (eL none (D.int .u64)) a0.ahead)), (3, .mp (eM (D.int .i64) (D.int .i64) a0.last)), (4, .var [vi x1.What, vi x1.Switch, vh x1.Hop.In.a0, vh x1.Hop.In.a1, vh x1.Hop.In.a2, vh x1.Hop.In.a3, vh x1.Hop.In.a4, vh x1.Hop.In.a5, vh x1.Hop.In.a6, vh x1.Hop.In.a7, vb x1.Hop.Fresh, vh x1.Hop.Tag, .d (.int .u64 x1.Hop.Was), .d (.int .u64 x1.Hop.Now), .d (.int .u64 x1.Hop.New), .d (eL (some 8) (eA8 (D.int .u16)) x1.Hop.Out), vi x1.Hop.Err, vi x1.Path])], 5⟩ ?_ ?_
    ·
     iterate 2 refine q1 _ ?_
     exact RunOps.nil' (nm [0, 1, 2, 3, 4] ⟨.pt 0, .pt 4, .d _, .d _, trivial⟩ ⟨⟨show 0 < 5 by decide, _, rfl, .vars ⟨.d _, .d _, .lc 1, .d _, .lc 2, .mref 3 (show 3 < 5 by decide), trivial⟩⟩, ⟨show 1 < 5 by decide, _, rfl, .lst _ _ _⟩, ⟨show 2 < 5 by decide, _, rfl, .lst _ _ _⟩, ⟨show 3 < 5 by decide, _, rfl, .mp _⟩, ⟨show 4 < 5 by decide, _, rfl, .vars ⟨.d _, .d _, .d _, .d _, .d _, .d _, .d _, .d _, .d _, .d _, .d _, .d _, .d _, .d _, .d _, .d _, .d _, .d _, trivial⟩⟩, trivial⟩)
    by_cases hc8 : (x1.What == 5) = true
    ·
     replace h := iteT hc8 h
     refine NWp.condT (t := (x1.What == 5)) rfl hc8 ?_
     obtain ⟨x9, hx9, h⟩ := bindE h
     obtain ⟨r10, hr10, h⟩ := bindE h
     have hh := Option.some.inj h
     subst hh
     refine NWp.opsE ⟨tab [(0, .ptr 0 0 0)], stab [(0, .var [vl1 a0.paths, vl0 a0.h, .loc 1 0 a0.switches.length, vl2 r10, .loc 2 0 a0.ahead.length, .mref 3]), (1, .lst true none (List.map (eL none (D.int .u64)) a0.switches)), (2, .lst false none (List.map (eL none (D.int .u64)) a0.ahead)), (3, .mp (eM (D.int .i64) (D.int .i64) a0.last))], 4⟩ ?_ ?_
     ·
      iterate 11 refine q1 _ ?_
      refine step (v := .ptr 1 x1.Switch.toNat 0) (st_iaddrL (xs := a0.switches) (e := (eL none (D.int .u64))) hx9 rfl rfl rfl rfl) ?_
      refine step (v := vl2 x9) (st_loadL (xs := a0.switches) (e := (eL none (D.int .u64))) hx9 rfl rfl rfl) ?_
      refine stepC (r := eL none (D.int .u64) r10) (ArgsOk.dt (ArgsOk.dt ArgsOk.nil')) (c_cause_steps_with hr10) ?_
      iterate 2 refine q1 _ ?_
      refine step (v := V.undef) (σ' := (upd (stab [(0, .var [vl1 a0.paths, vl0 a0.h, .loc 1 0 a0.switches.length, vl2 a0.ctrl, .loc 2 0 a0.ahead.length, .mref 3]), (1, .lst true none (List.map (eL none (D.int .u64)) a0.switches)), (2, .lst false none (List.map (eL none (D.int .u64)) a0.ahead)), (3, .mp (eM (D.int .i64) (D.int .i64) a0.last)), (4, .var [vi x1.What, vi x1.Switch, vh x1.Hop.In.a0, vh x1.Hop.In.a1, vh x1.Hop.In.a2, vh x1.Hop.In.a3, vh x1.Hop.In.a4, vh x1.Hop.In.a5, vh x1.Hop.In.a6, vh x1.Hop.In.a7, vb x1.Hop.Fresh, vh x1.Hop.Tag, .d (.int .u64 x1.Hop.Was), .d (.int .u64 x1.Hop.Now), .d (.int .u64 x1.Hop.New), .d (eL (some 8) (eA8 (D.int .u16)) x1.Hop.Out), vi x1.Hop.Err, vi x1.Path])]) 0 (some (.var [vl1 a0.paths, vl0 a0.h, .loc 1 0 a0.switches.length, vl2 r10, .loc 2 0 a0.ahead.length, .mref 3])))) (n' := 5) rfl ?_
      exact RunOps.nil' (nm [0, 1, 2, 3] ⟨.pt 0, trivial⟩ ⟨⟨show 0 < 4 by decide, _, rfl, .vars ⟨.d _, .d _, .lc 1, .d _, .lc 2, .mref 3 (show 3 < 4 by decide), trivial⟩⟩, ⟨show 1 < 4 by decide, _, rfl, .lst _ _ _⟩, ⟨show 2 < 4 by decide, _, rfl, .lst _ _ _⟩, ⟨show 3 < 4 by decide, _, rfl, .mp _⟩, trivial⟩)
     exact And.intro rfl rfl
    ·
     replace h := iteF hc8 h
     refine NWp.condF (t := (x1.What == 5)) rfl hc8 ?_
     refine NWp.opsJ ⟨tab [(0, .ptr 0 0 0), (5, .ptr 4 0 0), (66, vb (x1.What == 6))], stab [(0, .var [vl1 a0.paths, vl0 a0.h, .loc 1 0 a0.switches.length, vl2 a0.ctrl, .loc 2 0 a0.ahead.length, .mref 3]), (1, .lst true none (List.map (eL none (D.int .u64)) a0.switches)), (2, .lst false none (List.map (eL none (D.int .u64)) a0.ahead)), (3, .mp (eM (D.int .i64) (D.int .i64) a0.last)), (4, .var [vi x1.What, vi x1.Switch, vh x1.Hop.In.a0, vh x1.Hop.In.a1, vh x1.Hop.In.a2, vh x1.Hop.In.a3, vh x1.Hop.In.a4, vh x1.Hop.In.a5, vh x1.Hop.In.a6, vh x1.Hop.In.a7, vb x1.Hop.Fresh, vh x1.Hop.Tag, .d (.int .u64 x1.Hop.Was), .d (.int .u64 x1.Hop.Now), .d (.int .u64 x1.Hop.New), .d (eL (some 8) (eA8 (D.int .u16)) x1.Hop.Out), vi x1.Hop.Err, vi x1.Path])], 5⟩ ?_ ?_
     ·
      iterate 2 refine q1 _ ?_
      exact RunOps.nil' (nm [0, 1, 2, 3, 4] ⟨.pt 0, .pt 4, .d _, trivial⟩ ⟨⟨show 0 < 5 by decide, _, rfl, .vars ⟨.d _, .d _, .lc 1, .d _, .lc 2, .mref 3 (show 3 < 5 by decide), trivial⟩⟩, ⟨show 1 < 5 by decide, _, rfl, .lst _ _ _⟩, ⟨show 2 < 5 by decide, _, rfl, .lst _ _ _⟩, ⟨show 3 < 5 by decide, _, rfl, .mp _⟩, ⟨show 4 < 5 by decide, _, rfl, .vars ⟨.d _, .d _, .d _, .d _, .d _, .d _, .d _, .d _, .d _, .d _, .d _, .d _, .d _, .d _, .d _, .d _, .d _, .d _, trivial⟩⟩, trivial⟩)
     by_cases hc11 : (x1.What == 6) = true
     ·
      replace h := iteT hc11 h
      refine NWp.condT (t := (x1.What == 6)) rfl hc11 ?_
      obtain ⟨x12, hx12, h⟩ := bindE h
      obtain ⟨r13, hr13, h⟩ := bindE h
      obtain ⟨l14, hl14, h⟩ := bindE h
      have hh := Option.some.inj h
      subst hh
      refine NWp.opsE ⟨tab [(0, .ptr 0 0 0)], stab [(0, .var [vl1 a0.paths, vl0 a0.h, .loc 1 0 l14.length, vl2 a0.ctrl, .loc 2 0 a0.ahead.length, .mref 3]), (1, .lst true none (List.map (eL none (D.int .u64)) l14)), (2, .lst false none (List.map (eL none (D.int .u64)) a0.ahead)), (3, .mp (eM (D.int .i64) (D.int .i64) a0.last))], 4⟩ ?_ ?_
      ·
       iterate 12 refine q1 _ ?_
       refine step (v := .ptr 1 x1.Switch.toNat 0) (st_iaddrL (xs := a0.switches) (e := (eL none (D.int .u64))) hx12 rfl rfl rfl rfl) ?_
       refine step (v := vl2 x12) (st_loadL (xs := a0.switches) (e := (eL none (D.int .u64))) hx12 rfl rfl rfl) ?_
       iterate 4 refine q1 _ ?_
       refine stepC (r := eL none (D.int .u64) r13) (ArgsOk.dt (ArgsOk.dt ArgsOk.nil')) (c_cause_steps_with hr13) ?_
       refine step (v := .ptr 1 x1.Switch.toNat 0) (st_iaddrL (xs := a0.switches) (e := (eL none (D.int .u64))) hx12 rfl rfl rfl rfl) ?_
       refine step (v := V.undef) (σ' := (upd (stab [(0, .var [vl1 a0.paths, vl0 a0.h, .loc 1 0 a0.switches.length, vl2 a0.ctrl, .loc 2 0 a0.ahead.length, .mref 3]), (1, .lst true none (List.map (eL none (D.int .u64)) a0.switches)), (2, .lst false none (List.map (eL none (D.int .u64)) a0.ahead)), (3, .mp (eM (D.int .i64) (D.int .i64) a0.last)), (4, .var [vi x1.What, vi x1.Switch, vh x1.Hop.In.a0, vh x1.Hop.In.a1, vh x1.Hop.In.a2, vh x1.Hop.In.a3, vh x1.Hop.In.a4, vh x1.Hop.In.a5, vh x1.Hop.In.a6, vh x1.Hop.In.a7, vb x1.Hop.Fresh, vh x1.Hop.Tag, .d (.int .u64 x1.Hop.Was), .d (.int .u64 x1.Hop.Now), .d (.int .u64 x1.Hop.New), .d (eL (some 8) (eA8 (D.int .u16)) x1.Hop.Out), vi x1.Hop.Err, vi x1.Path])]) 1 (some (.lst true none (List.map (eL none (D.int .u64)) l14))))) (n' := 5) (st_storeL' (e := (eL none (D.int .u64))) (v' := r13) hl14 rfl rfl rfl rfl rfl) ?_
       exact RunOps.nil' (nm [0, 1, 2, 3] ⟨.pt 0, trivial⟩ ⟨⟨show 0 < 4 by decide, _, rfl, .vars ⟨.d _, .d _, .le (id := 1) (gput_len hl14).symm (show 1 < 4 by decide), .d _, .lc 2, .mref 3 (show 3 < 4 by decide), trivial⟩⟩, ⟨show 1 < 4 by decide, _, rfl, .lst _ _ _⟩, ⟨show 2 < 4 by decide, _, rfl, .lst _ _ _⟩, ⟨show 3 < 4 by decide, _, rfl, .mp _⟩, trivial⟩)
      exact And.intro rfl rfl
     ·
      replace h := iteF hc11 h
      refine NWp.condF (t := (x1.What == 6)) rfl hc11 ?_
      refine NWp.opsJ ⟨tab [(4, vb false)], stab [(0, .var [vl1 a0.paths, vl0 a0.h, .loc 1 0 a0.switches.length, vl2 a0.ctrl, .loc 2 0 a0.ahead.length, .mref 3]), (1, .lst true none (List.map (eL none (D.int .u64)) a0.switches)), (2, .lst false none (List.map (eL none (D.int .u64)) a0.ahead)), (3, .mp (eM (D.int .i64) (D.int .i64) a0.last))], 4⟩ ?_ ?_
      ·
       refine q1 _ ?_
       exact RunOps.nil' (nm [0, 1, 2, 3] ⟨.d _, trivial⟩ ⟨⟨show 0 < 4 by decide, _, rfl, .vars ⟨.d _, .d _, .lc 1, .d _, .lc 2, .mref 3 (show 3 < 4 by decide), trivial⟩⟩, ⟨show 1 < 4 by decide, _, rfl, .lst _ _ _⟩, ⟨show 2 < 4 by decide, _, rfl, .lst _ _ _⟩, ⟨show 3 < 4 by decide, _, rfl, .mp _⟩, trivial⟩)
      obtain ⟨r15, kr15, hr⟩ := mapE (o := some (false, a0)) (g := Sum.inr) h
      subst hr
      have h := kr15
      have hh := Option.some.inj h
      subst hh
      refine NWp.norm (s0 := ⟨tab [(4, vb false)], stab [(0, .var [vl1 a0.paths, vl0 a0.h, .loc 1 0 a0.switches.length, vl2 a0.ctrl, .loc 4 0 a0.ahead.length, .mref 3]), (1, .lst true none (List.map (eL none (D.int .u64)) a0.switches)), (3, .mp (eM (D.int .i64) (D.int .i64) a0.last)), (4, .lst false none (List.map (eL none (D.int .u64)) a0.ahead))], 5⟩) (Norm.mkR [0, 1, 2, 3, 2] [0, 1, 3, 4] (by decide) rfl (by decide) (by decide) ⟨.d _, trivial⟩ ⟨⟨show 0 < 5 by decide, _, rfl, .vars ⟨.d _, .d _, .lc 1, .d _, .lc 4, .mref 3 (show 3 < 5 by decide), trivial⟩⟩, ⟨show 1 < 5 by decide, _, rfl, .lst _ _ _⟩, ⟨show 3 < 5 by decide, _, rfl, .mp _⟩, ⟨show 4 < 5 by decide, _, rfl, .lst _ _ _⟩, trivial⟩) ?_
      refine NWp.ret ?_
      refine And.intro (fun hn => nomatch hn) ?_
      intro hq
      have hq := hq.symm
      subst hq
      exact ⟨.inr rfl, _, rfl, rfl, AllS.sub ⟨rfl, rfl, rfl, rfl, trivial⟩, rfl⟩
  ·
   intro r' hq
   subst hq
   exact Option.some.inj h
  rintro ⟨l15, y16⟩ rfl
  show NWp _ _ _ _ _ ⟨tab [(0, .ptr 0 0 0)], stab [(0, .var [vl1 a0.paths, vl0 a0.h, .loc 1 0 l15.length, vl2 y16, .loc 2 0 a0.ahead.length, .mref 3]), (1, .lst true none (List.map (eL none (D.int .u64)) l15)), (2, .lst false none (List.map (eL none (D.int .u64)) a0.ahead)), (3, .mp (eM (D.int .i64) (D.int .i64) a0.last))], 4⟩
  obtain ⟨l18, hl18, h⟩ := bindE h
  refine NWp.opsJ ⟨tab [], stab [(0, .var [vl1 a0.paths, vl0 a0.h, .loc 1 0 l15.length, vl2 y16, .loc 4 0 l18.length, .mref 3]), (1, .lst true none (List.map (eL none (D.int .u64)) l15)), (3, .mp (eM (D.int .i64) (D.int .i64) a0.last)), (4, .lst false none (List.map (eL none (D.int .u64)) l18))], 5⟩ ?_ ?_
  ·
   iterate 6 refine q1 _ ?_
   refine step (v := .loc 4 0 l18.length) (σ' := (upd (upd (stab [(0, .var [vl1 a0.paths, vl0 a0.h, .loc 1 0 l15.length, vl2 y16, .loc 2 0 a0.ahead.length, .mref 3]), (1, .lst true none (List.map (eL none (D.int .u64)) l15)), (2, .lst false none (List.map (eL none (D.int .u64)) a0.ahead)), (3, .mp (eM (D.int .i64) (D.int .i64) a0.last))]) 2 none) 4 (some (.lst false none (List.map (eL none (D.int .u64)) l18))))) (n' := 5) (st_app (xs := a0.ahead) (ys := ([[]] : List (List Int))) (e := (eL none (D.int .u64))) hl18 rfl rfl rfl (src_v (xs := ([[]] : List (List Int))) (e := (eL none (D.int .u64))) rfl)) ?_
   iterate 2 refine q1 _ ?_
   refine step (v := V.undef) (σ' := (upd (upd (upd (stab [(0, .var [vl1 a0.paths, vl0 a0.h, .loc 1 0 l15.length, vl2 y16, .loc 2 0 a0.ahead.length, .mref 3]), (1, .lst true none (List.map (eL none (D.int .u64)) l15)), (2, .lst false none (List.map (eL none (D.int .u64)) a0.ahead)), (3, .mp (eM (D.int .i64) (D.int .i64) a0.last))]) 2 none) 4 (some (.lst false none (List.map (eL none (D.int .u64)) l18)))) 0 (some (.var [vl1 a0.paths, vl0 a0.h, .loc 1 0 l15.length, vl2 y16, .loc 4 0 l18.length, .mref 3])))) (n' := 5) rfl ?_
   exact RunOps.nil' (nm [0, 1, 2, 3, 4] trivial ⟨⟨show 0 < 5 by decide, _, rfl, .vars ⟨.d _, .d _, .lc 1, .d _, .lc 4, .mref 3 (show 3 < 5 by decide), trivial⟩⟩, ⟨show 1 < 5 by decide, _, rfl, .lst _ _ _⟩, ⟨show 3 < 5 by decide, _, rfl, .mp _⟩, ⟨show 4 < 5 by decide, _, rfl, .lst _ _ _⟩, trivial⟩)
  refine NWp.opsJ ⟨tab [(4, vb true)], stab [(0, .var [vl1 a0.paths, vl0 a0.h, .loc 1 0 l15.length, vl2 y16, .loc 4 0 l18.length, .mref 3]), (1, .lst true none (List.map (eL none (D.int .u64)) l15)), (3, .mp (eM (D.int .i64) (D.int .i64) a0.last)), (4, .lst false none (List.map (eL none (D.int .u64)) l18))], 5⟩ ?_ ?_
  ·
   refine q1 _ ?_
   exact RunOps.nil' (nm [0, 1, 2, 3, 4] ⟨.d _, trivial⟩ ⟨⟨show 0 < 5 by decide, _, rfl, .vars ⟨.d _, .d _, .lc 1, .d _, .lc 4, .mref 3 (show 3 < 5 by decide), trivial⟩⟩, ⟨show 1 < 5 by decide, _, rfl, .lst _ _ _⟩, ⟨show 3 < 5 by decide, _, rfl, .mp _⟩, ⟨show 4 < 5 by decide, _, rfl, .lst _ _ _⟩, trivial⟩)
  have hh := Option.some.inj h
  subst hh
  refine NWp.ret ?_
  exact ⟨.inr rfl, _, rfl, rfl, AllS.sub ⟨rfl, rfl, rfl, rfl, trivial⟩, rfl⟩

theorem c_cause_look {a0 : (List api_Path)} {a1 : (List api_Step)} {a2 : Int} {r : ((List (List Int)) × Bool)} (h : cause_look a0 a1 a2 = some r) : PCall Tryd.prog 16 [eL (some 6) eapi_Path a0, eL (some 18) eapi_Step a1, .int .i64 a2] (.tup [eL none (eL none (D.int .u64)) r.1, .bool r.2]) := by
 refine PCall.introN ok16 (show 3 ≤ 33 by decide) ?_
 refine NWp.norm (s0 := ⟨tab [(0, vl1 a0), (1, vl0 a1), (2, vi a2)], stab [], 0⟩) (nr []) ?_
 refine NWp.opsJ ⟨tab [(0, vl1 a0), (1, vl0 a1), (2, vi a2)], stab [], 0⟩ ?_ ?_
 ·
  iterate 2 refine q1 _ ?_
  exact nR []
 obtain ⟨l1, hl1, h⟩ := bindE h
 refine NWp.opsJ ⟨tab [(1, vl0 a1), (8, .ptr 0 0 0)], stab [(0, .var [vl1 a0, vl0 a1, .loc 1 0 l1.length, vl2 [], .loc 3 0 (([] : List (List Int)).length), .mref 2]), (1, .lst true none (List.map (eL none (D.int .u64)) l1)), (2, .mp (eM (D.int .i64) (D.int .i64) ([] : List (Int × Int)))), (3, .lst false none (List.map (eL none (D.int .u64)) ([] : List (List Int))))], 4⟩ ?_ ?_
 ·
  iterate 5 refine q1 _ ?_
  refine step (v := .loc 0 0 l1.length) (σ' := (upd (stab []) 0 (some (.lst true none (List.map (eL none (D.int .u64)) l1))))) (n' := 1) (st_mk (e := (eL none (D.int .u64))) (z := []) hl1 rfl rfl (gmk_le hl1)) ?_
  refine step (v := .mref 1) (σ' := (upd (upd (stab []) 0 (some (.lst true none (List.map (eL none (D.int .u64)) l1)))) 1 (some (.mp (eM (D.int .i64) (D.int .i64) ([] : List (Int × Int))))))) (n' := 2) rfl ?_
  refine q1 _ ?_
  refine step (v := .ptr 2 0 0) (σ' := (upd (upd (upd (stab []) 0 (some (.lst true none (List.map (eL none (D.int .u64)) l1)))) 1 (some (.mp (eM (D.int .i64) (D.int .i64) ([] : List (Int × Int)))))) 2 (some (.var [vl1 a0, vl0 a1, .loc 0 0 l1.length, vl2 [], .d (.nils), .mref 1])))) (n' := 3) rfl ?_
  refine q1 _ ?_
  exact RunOps.nil' (Norm.trans (s2 := ⟨tab [(1, vl0 a1), (8, .ptr 0 0 0)], stab [(0, .var [vl1 a0, vl0 a1, .loc 1 0 l1.length, vl2 [], .loc 3 0 (([] : List (List Int)).length), .mref 2]), (1, .lst true none (List.map (eL none (D.int .u64)) l1)), (2, .mp (eM (D.int .i64) (D.int .i64) ([] : List (Int × Int)))), (3, .lst false none (List.map (eL none (D.int .u64)) ([] : List (List Int))))], 4⟩) (Norm.nilcell 2 4 false none rfl rfl (show 2 ≠ 3 by decide)) (nm [2, 0, 1, 3] ⟨.d _, .pt 0, trivial⟩ ⟨⟨show 0 < 4 by decide, _, rfl, .vars ⟨.d _, .d _, .lc 1, .d _, .lc 3, .mref 2 (show 2 < 4 by decide), trivial⟩⟩, ⟨show 1 < 4 by decide, _, rfl, .lst _ _ _⟩, ⟨show 2 < 4 by decide, _, rfl, .mp _⟩, ⟨show 3 < 4 by decide, _, rfl, .lst _ _ _⟩, trivial⟩))
 refine NWp.seq ?_
 refine NWp.opsJ ⟨tab [(8, .ptr 0 0 0), (20, vi (a1.length : Int)), (21, vi 0)], stab [(0, .var [vl1 a0, vl0 a1, .loc 1 0 l1.length, vl2 [], .loc 2 0 (([] : List (List Int)).length), .mref 3]), (1, .lst true none (List.map (eL none (D.int .u64)) l1)), (2, .lst false none (List.map (eL none (D.int .u64)) ([] : List (List Int)))), (3, .mp (eM (D.int .i64) (D.int .i64) ([] : List (Int × Int))))], 4⟩ ?_ ?_
 ·
  refine q1 _ ?_
  refine step (v := vi (a1.length : Int)) (st_len (xs := a1) (e := eapi_Step) rfl) ?_
  refine q1 _ ?_
  exact RunOps.nil' (nm [0, 1, 3, 2] ⟨.pt 0, .d _, .d _, trivial⟩ ⟨⟨show 0 < 4 by decide, _, rfl, .vars ⟨.d _, .d _, .lc 1, .d _, .lc 2, .mref 3 (show 3 < 4 by decide), trivial⟩⟩, ⟨show 1 < 4 by decide, _, rfl, .lst _ _ _⟩, ⟨show 2 < 4 by decide, _, rfl, .lst _ _ _⟩, ⟨show 3 < 4 by decide, _, rfl, .mp _⟩, trivial⟩)
 obtain ⟨q22, hl, h⟩ := bindE h
 refine NWp.block ?_
 refine loop_forR (cntU (a1.length : Int)) (fun (i8 : Int) (qq : ((List api_Path) × (List api_Step) × (List (List Int)) × (List Int) × (List (List Int)) × (List (Int × Int)))) => ⟨tab [(8, .ptr 0 0 0), (20, vi (a1.length : Int)), (21, vi i8)], stab [(0, .var [vl1 qq.1, vl0 qq.2.1, .loc 1 0 qq.2.2.1.length, vl2 qq.2.2.2.1, .loc 2 0 qq.2.2.2.2.1.length, .mref 3]), (1, .lst true none (List.map (eL none (D.int .u64)) qq.2.2.1)), (2, .lst false none (List.map (eL none (D.int .u64)) qq.2.2.2.2.1)), (3, .mp (eM (D.int .i64) (D.int .i64) qq.2.2.2.2.2))], 4⟩) 0 (fun (qq : ((List api_Path) × (List api_Step) × (List (List Int)) × (List Int) × (List (List Int)) × (List (Int × Int)))) => ⟨tab [(8, .ptr 0 0 0)], stab [(0, .var [vl1 qq.1, vl0 qq.2.1, .loc 1 0 qq.2.2.1.length, vl2 qq.2.2.2.1, .loc 2 0 qq.2.2.2.2.1.length, .mref 3]), (1, .lst true none (List.map (eL none (D.int .u64)) qq.2.2.1)), (2, .lst false none (List.map (eL none (D.int .u64)) qq.2.2.2.2.1)), (3, .mp (eM (D.int .i64) (D.int .i64) qq.2.2.2.2.2))], 4⟩) Low low_step (r := r) hl (by unfold Low; omega) ?_ ?_ ?_ ?_
 ·
  rintro i8 ⟨y2, y3, l4, y5, l6, m7⟩ xr13 hinv11 hgo10 h
  show NWp _ _ _ _ _ ⟨tab [(8, .ptr 0 0 0), (20, vi (a1.length : Int)), (21, vi i8)], stab [(0, .var [vl1 y2, vl0 y3, .loc 1 0 l4.length, vl2 y5, .loc 2 0 l6.length, .mref 3]), (1, .lst true none (List.map (eL none (D.int .u64)) l4)), (2, .lst false none (List.map (eL none (D.int .u64)) l6)), (3, .mp (eM (D.int .i64) (D.int .i64) m7))], 4⟩
  have hc12 : decide (i8 < (a1.length : Int)) = true := decide_eq_true hgo10
  refine NWp.opsJ ⟨tab [(8, .ptr 0 0 0), (20, vi (a1.length : Int)), (21, vi i8), (22, vb (decide (i8 < (a1.length : Int))))], stab [(0, .var [vl1 y2, vl0 y3, .loc 1 0 l4.length, vl2 y5, .loc 2 0 l6.length, .mref 3]), (1, .lst true none (List.map (eL none (D.int .u64)) l4)), (2, .lst false none (List.map (eL none (D.int .u64)) l6)), (3, .mp (eM (D.int .i64) (D.int .i64) m7))], 4⟩ ?_ ?_
  ·
   refine q1 _ ?_
   exact RunOps.nil' (nm [0, 1, 2, 3] ⟨.pt 0, .d _, .d _, .d _, trivial⟩ ⟨⟨show 0 < 4 by decide, _, rfl, .vars ⟨.d _, .d _, .lc 1, .d _, .lc 2, .mref 3 (show 3 < 4 by decide), trivial⟩⟩, ⟨show 1 < 4 by decide, _, rfl, .lst _ _ _⟩, ⟨show 2 < 4 by decide, _, rfl, .lst _ _ _⟩, ⟨show 3 < 4 by decide, _, rfl, .mp _⟩, trivial⟩)
  refine NWp.rng 20 rfl fun hB9 => ?_
  refine NWp.seq ?_
  refine NWp.condT (t := decide (i8 < (a1.length : Int))) rfl hc12 ?_
  refine NWp.skip ?_
  refine NWp.seq ?_
  refine NWp.block ?_
  refine NWp.opsJ ⟨tab [(8, .ptr 0 0 0), (9, vi i8), (20, vi (a1.length : Int)), (21, vi i8)], stab [(0, .var [vl1 y2, vl0 y3, .loc 1 0 l4.length, vl2 y5, .loc 2 0 l6.length, .mref 3]), (1, .lst true none (List.map (eL none (D.int .u64)) l4)), (2, .lst false none (List.map (eL none (D.int .u64)) l6)), (3, .mp (eM (D.int .i64) (D.int .i64) m7))], 4⟩ ?_ ?_
  ·
   iterate 2 refine q1 _ ?_
   exact RunOps.nil' (nm [0, 1, 2, 3] ⟨.pt 0, .d _, .d _, .d _, trivial⟩ ⟨⟨show 0 < 4 by decide, _, rfl, .vars ⟨.d _, .d _, .lc 1, .d _, .lc 2, .mref 3 (show 3 < 4 by decide), trivial⟩⟩, ⟨show 1 < 4 by decide, _, rfl, .lst _ _ _⟩, ⟨show 2 < 4 by decide, _, rfl, .lst _ _ _⟩, ⟨show 3 < 4 by decide, _, rfl, .mp _⟩, trivial⟩)
  obtain ⟨r14, hr14, h⟩ := bindE h
  refine NWp.opsJ ⟨tab [(8, .ptr 0 0 0), (20, vi (a1.length : Int)), (21, vi i8), (27, vb (!r14.1))], stab [(0, .var [vl1 r14.2.paths, vl0 r14.2.h, .loc 1 0 r14.2.switches.length, vl2 r14.2.ctrl, .loc 2 0 r14.2.ahead.length, .mref 3]), (1, .lst true none (List.map (eL none (D.int .u64)) r14.2.switches)), (2, .lst false none (List.map (eL none (D.int .u64)) r14.2.ahead)), (3, .mp (eM (D.int .i64) (D.int .i64) r14.2.last))], 4⟩ ?_ ?_
  ·
   iterate 2 refine q1 _ ?_
   refine stepW (v := vb r14.1) (σ' := (upd (upd (upd (upd (upd (upd (upd (upd (stab [(0, .var [vl1 y2, vl0 y3, .loc 1 0 l4.length, vl2 y5, .loc 2 0 l6.length, .mref 3]), (1, .lst true none (List.map (eL none (D.int .u64)) l4)), (2, .lst false none (List.map (eL none (D.int .u64)) l6)), (3, .mp (eM (D.int .i64) (D.int .i64) m7))]) 3 none) 2 none) 1 none) 0 none) 4 (some (.lst false none (List.map (eL none (D.int .u64)) r14.2.ahead)))) 3 (some (.mp (eM (D.int .i64) (D.int .i64) r14.2.last)))) 1 (some (.lst true none (List.map (eL none (D.int .u64)) r14.2.switches)))) 0 (some (.var [vl1 r14.2.paths, vl0 r14.2.h, .loc 1 0 r14.2.switches.length, vl2 r14.2.ctrl, .loc 4 0 r14.2.ahead.length, .mref 3])))) (n' := 5) (SCall.lift [0, 1, 2, 3] (c_cause_looker_one hr14) (show 4 ≤ 5 by decide) (by decide) (show ∀ i ∈ [0, 1, 2, 3], i < 4 by decide) (dom_c (show 0 < 5 by decide) (dom_c (show 1 < 5 by decide) (dom_c (show 3 < 5 by decide) (dom_c (show 4 < 5 by decide) dom_n)))) (VNs.c (.pt 0) (VNs.c (.d _) VNs.nil0)) (SN.c (show 0 < 4 by decide) rfl (.vars (VNs.c (.d _) (VNs.c (.d _) (VNs.c (.lc 1) (VNs.c (.d _) (VNs.c (.lc 2) (VNs.c (.mref 3 (show 3 < 4 by decide)) VNs.nil0))))))) (SN.c (show 1 < 4 by decide) rfl (.lst _ _ _) (SN.c (show 2 < 4 by decide) rfl (.lst _ _ _) (SN.c (show 3 < 4 by decide) rfl (.mp _) SN.nil0))))) (show 4 ≤ 5 by decide) ?_
   refine q1 _ ?_
   exact RunOps.nil' (nm [0, 1, 4, 3] ⟨.pt 0, .d _, .d _, .d _, trivial⟩ ⟨⟨show 0 < 4 by decide, _, rfl, .vars ⟨.d _, .d _, .lc 1, .d _, .lc 2, .mref 3 (show 3 < 4 by decide), trivial⟩⟩, ⟨show 1 < 4 by decide, _, rfl, .lst _ _ _⟩, ⟨show 2 < 4 by decide, _, rfl, .lst _ _ _⟩, ⟨show 3 < 4 by decide, _, rfl, .mp _⟩, trivial⟩)
  by_cases hc15 : (!r14.1) = true
  ·
   replace h := iteT hc15 h
   refine NWp.condT (t := (!r14.1)) rfl hc15 ?_
   refine NWp.opsJ ⟨tab [(6, .d (eL none (eL none (D.int .u64)) ([] : List (List Int)))), (7, vb false)], stab [], 0⟩ ?_ ?_
   ·
    iterate 2 refine q1 _ ?_
    exact nR []
   obtain ⟨r16, kr16, hr⟩ := mapE (o := some (([] : List (List Int)), false)) (g := Br.ret) h
   subst hr
   have h := kr16
   have hh := Option.some.inj h
   subst hh
   refine NWp.ret ?_
   refine And.intro (fun hn => nomatch hn) ?_
   intro hq
   have hq := hq.symm
   subst hq
   show FQ _ _ _ _
   exact FQ.mkT (.inr rfl) (res_t (v := .d (eL none (eL none (D.int .u64)) ([] : List (List Int)))) rfl (res_t (v := vb false) rfl rfl)) (RV.d (RV.d trivial))
  ·
   replace h := iteF hc15 h
   refine NWp.condF (t := (!r14.1)) rfl hc15 ?_
   refine NWp.skip ?_
   have hh := Option.some.inj h
   subst hh
   refine NWp.opsE ⟨tab [(8, .ptr 0 0 0), (20, vi (a1.length : Int)), (21, vi (i8 + 1))], stab [(0, .var [vl1 r14.2.paths, vl0 r14.2.h, .loc 1 0 r14.2.switches.length, vl2 r14.2.ctrl, .loc 2 0 r14.2.ahead.length, .mref 3]), (1, .lst true none (List.map (eL none (D.int .u64)) r14.2.switches)), (2, .lst false none (List.map (eL none (D.int .u64)) r14.2.ahead)), (3, .mp (eM (D.int .i64) (D.int .i64) r14.2.last))], 4⟩ ?_ ?_
   ·
    refine step (v := vi (i8 + 1)) (st_inc (inc_ok hinv11 hgo10 hB9) rfl rfl) ?_
    refine q1 _ ?_
    exact RunOps.nil' (nm [0, 1, 2, 3] ⟨.pt 0, .d _, .d _, trivial⟩ ⟨⟨show 0 < 4 by decide, _, rfl, .vars ⟨.d _, .d _, .lc 1, .d _, .lc 2, .mref 3 (show 3 < 4 by decide), trivial⟩⟩, ⟨show 1 < 4 by decide, _, rfl, .lst _ _ _⟩, ⟨show 2 < 4 by decide, _, rfl, .lst _ _ _⟩, ⟨show 3 < 4 by decide, _, rfl, .mp _⟩, trivial⟩)
   exact And.intro rfl rfl
 ·
  rintro i8 ⟨y2, y3, l4, y5, l6, m7⟩ hinv11 hgo10
  show NWp _ _ _ _ _ ⟨tab [(8, .ptr 0 0 0), (20, vi (a1.length : Int)), (21, vi i8)], stab [(0, .var [vl1 y2, vl0 y3, .loc 1 0 l4.length, vl2 y5, .loc 2 0 l6.length, .mref 3]), (1, .lst true none (List.map (eL none (D.int .u64)) l4)), (2, .lst false none (List.map (eL none (D.int .u64)) l6)), (3, .mp (eM (D.int .i64) (D.int .i64) m7))], 4⟩
  have hc12 : ¬ (decide (i8 < (a1.length : Int)) = true) := fun hq => hgo10 (of_decide_eq_true hq)
  refine NWp.opsJ ⟨tab [(8, .ptr 0 0 0), (20, vi (a1.length : Int)), (21, vi i8), (22, vb (decide (i8 < (a1.length : Int))))], stab [(0, .var [vl1 y2, vl0 y3, .loc 1 0 l4.length, vl2 y5, .loc 2 0 l6.length, .mref 3]), (1, .lst true none (List.map (eL none (D.int .u64)) l4)), (2, .lst false none (List.map (eL none (D.int .u64)) l6)), (3, .mp (eM (D.int .i64) (D.int .i64) m7))], 4⟩ ?_ ?_
  ·
   refine q1 _ ?_
   exact RunOps.nil' (nm [0, 1, 2, 3] ⟨.pt 0, .d _, .d _, .d _, trivial⟩ ⟨⟨show 0 < 4 by decide, _, rfl, .vars ⟨.d _, .d _, .lc 1, .d _, .lc 2, .mref 3 (show 3 < 4 by decide), trivial⟩⟩, ⟨show 1 < 4 by decide, _, rfl, .lst _ _ _⟩, ⟨show 2 < 4 by decide, _, rfl, .lst _ _ _⟩, ⟨show 3 < 4 by decide, _, rfl, .mp _⟩, trivial⟩)
  refine NWp.seq ?_
  refine NWp.condF (t := decide (i8 < (a1.length : Int))) rfl hc12 ?_
  refine NWp.norm (s0 := ⟨tab [(8, .ptr 0 0 0)], stab [(0, .var [vl1 y2, vl0 y3, .loc 1 0 l4.length, vl2 y5, .loc 2 0 l6.length, .mref 3]), (1, .lst true none (List.map (eL none (D.int .u64)) l4)), (2, .lst false none (List.map (eL none (D.int .u64)) l6)), (3, .mp (eM (D.int .i64) (D.int .i64) m7))], 4⟩) (nm [0, 1, 2, 3] ⟨.pt 0, trivial⟩ ⟨⟨show 0 < 4 by decide, _, rfl, .vars ⟨.d _, .d _, .lc 1, .d _, .lc 2, .mref 3 (show 3 < 4 by decide), trivial⟩⟩, ⟨show 1 < 4 by decide, _, rfl, .lst _ _ _⟩, ⟨show 2 < 4 by decide, _, rfl, .lst _ _ _⟩, ⟨show 3 < 4 by decide, _, rfl, .mp _⟩, trivial⟩) ?_
  refine NWp.exit ?_
  exact And.intro rfl rfl
 ·
  intro r' hq
  subst hq
  exact Option.some.inj h
 rintro ⟨z16, z17, z18, z19, z20, z21⟩ rfl
 refine NWp.opsJ ⟨tab [(6, .loc 0 0 z20.length), (7, vb true)], stab [(0, .lst false none (List.map (eL none (D.int .u64)) z20))], 1⟩ ?_ ?_
 ·
  iterate 6 refine q1 _ ?_
  exact nR [2]
 have hh := Option.some.inj h
 subst hh
 refine NWp.ret ?_
 show FQ _ _ _ _
 exact FQ.mkT (.inr rfl) (res_t (v := .loc 0 0 z20.length) rfl (res_t (v := vb true) rfl rfl)) (RV.loc (xs := z20) (e := (eL none (D.int .u64))) rfl rfl (RV.d trivial))

theorem c_math_bits_TrailingZeros64 {a0 : Int} {r : Int} (h : math_bits_TrailingZeros64 a0 = some r) : PCall Tryd.prog 22 [.int .u64 a0] (.int .i64 r) := by
 refine PCall.introN ok22 (show 1 ≤ 14 by decide) ?_
 refine NWp.norm (s0 := ⟨tab [(0, .d (.int .u64 a0))], stab [], 0⟩) (nr []) ?_
 refine NWp.opsJ ⟨tab [(0, .d (.int .u64 a0))], stab [], 0⟩ ?_ ?_
 ·
  refine q1 _ ?_
  exact nR []
 refine NWp.seq ?_
 refine NWp.opsJ ⟨tab [(0, .d (.int .u64 a0)), (4, vb (a0 == 0))], stab [], 0⟩ ?_ ?_
 ·
  iterate 2 refine q1 _ ?_
  exact nR []
 by_cases hc1 : (a0 == 0) = true
 ·
  replace h := iteT hc1 h
  refine NWp.condT (t := (a0 == 0)) rfl hc1 ?_
  refine NWp.opsJ ⟨tab [(2, vi 64)], stab [], 0⟩ ?_ ?_
  ·
   refine q1 _ ?_
   exact nR []
  have hh := Option.some.inj h
  subst hh
  refine NWp.ret ?_
  show FQ _ _ _ _
  exact FQ.mk1 (.inr rfl) (res_t (v := vi 64) rfl rfl) (RV.d trivial)
 ·
  replace h := iteF hc1 h
  refine NWp.condF (t := (a0 == 0)) rfl hc1 ?_
  refine NWp.skip ?_
  obtain ⟨b2, hb2, h⟩ := bindE h
  refine NWp.opsJ ⟨tab [(2, vi (IntKind.i64.wrap b2))], stab [], 0⟩ ?_ ?_
  ·
   iterate 6 refine q1 _ ?_
   refine step (v := .d (.cptr (some 64) (.agg (gtab0.map (D.int .u8))) (0 + ((IntKind.u64.wrap ((andI .u64 a0 (IntKind.u64.wrap (0 - a0))) * 285870213051353865)).fdiv (2 ^ 58)).toNat * 1))) (st_iaddrAC (xs := gtab0) hb2 rfl rfl rfl) ?_
   refine step (v := v8 b2) (st_ldC rfl (ld_arr (e := (D.int .u8)) (xs := gtab0) (pre := []) (post := []) hb2 rfl (by decide))) ?_
   iterate 2 refine q1 _ ?_
   exact nR []
  have hh := Option.some.inj h
  subst hh
  refine NWp.ret ?_
  show FQ _ _ _ _
  exact FQ.mk1 (.inr rfl) (res_t (v := vi (IntKind.i64.wrap b2)) rfl rfl) (RV.d trivial)

theorem c_cause_steps_list {a0 : (List Int)} {r : (List Int)} (h : cause_steps_list a0 = some r) : PCall Tryd.prog 17 [eL none (D.int .u64) a0] (eL none (D.int .i64) r) := by
 refine PCall.introN ok17 (show 1 ≤ 29 by decide) ?_
 refine NWp.norm (s0 := ⟨tab [(0, vl2 a0)], stab [], 0⟩) (nr []) ?_
 refine NWp.opsJ ⟨tab [(0, vl2 a0)], stab [], 0⟩ ?_ ?_
 ·
  refine q1 _ ?_
  exact nR []
 refine NWp.opsJ ⟨tab [(0, vl2 a0), (3, .d (.nils))], stab [], 0⟩ ?_ ?_
 ·
  refine q1 _ ?_
  exact nR []
 refine NWp.seq ?_
 refine NWp.opsJ ⟨tab [(3, .d (.nils)), (6, vl2 a0), (7, vi (a0.length : Int)), (8, vi 0)], stab [], 0⟩ ?_ ?_
 ·
  refine q1 _ ?_
  refine step (v := vi (a0.length : Int)) (st_len (xs := a0) (e := (D.int .u64)) rfl) ?_
  refine q1 _ ?_
  exact nR []
 obtain ⟨z18, hl, h⟩ := bindE h
 refine NWp.norm (s0 := ⟨tab [(3, .loc 0 0 (([] : List Int).length)), (6, vl2 a0), (7, vi (a0.length : Int)), (8, vi 0)], stab [(0, .lst false none (List.map (D.int .i64) ([] : List Int)))], 1⟩) (Norm.trans (s2 := ⟨tab [(3, .loc 0 0 (([] : List Int).length)), (6, vl2 a0), (7, vi (a0.length : Int)), (8, vi 0)], stab [(0, .lst false none (List.map (D.int .i64) ([] : List Int)))], 1⟩) (Norm.nil1 3 false none rfl) (nr [0])) ?_
 refine NWp.block ?_
 refine loop_forO (cntU (a0.length : Int)) (fun (i2 : Int) (qq : (List Int)) => ⟨tab [(3, .loc 0 0 qq.length), (6, vl2 a0), (7, vi (a0.length : Int)), (8, vi i2)], stab [(0, .lst false none (List.map (D.int .i64) qq))], 1⟩) 0 (fun (qq : (List Int)) => ⟨tab [(3, .loc 0 0 qq.length)], stab [(0, .lst false none (List.map (D.int .i64) qq))], 1⟩) Low low_step hl (by unfold Low; omega) ?_ ?_ ?_
 ·
  rintro i2 l1 xr7 hinv5 hgo4 h
  show NWp _ _ _ _ _ ⟨tab [(3, .loc 0 0 l1.length), (6, vl2 a0), (7, vi (a0.length : Int)), (8, vi i2)], stab [(0, .lst false none (List.map (D.int .i64) l1))], 1⟩
  have hc6 : decide (i2 < (a0.length : Int)) = true := decide_eq_true hgo4
  refine NWp.opsJ ⟨tab [(3, .loc 0 0 l1.length), (6, vl2 a0), (7, vi (a0.length : Int)), (8, vi i2), (9, vb (decide (i2 < (a0.length : Int))))], stab [(0, .lst false none (List.map (D.int .i64) l1))], 1⟩ ?_ ?_
  ·
   refine q1 _ ?_
   exact nR [0]
  refine NWp.rng 7 rfl fun hB3 => ?_
  refine NWp.seq ?_
  refine NWp.condT (t := decide (i2 < (a0.length : Int))) rfl hc6 ?_
  refine NWp.skip ?_
  refine NWp.seq ?_
  refine NWp.block ?_
  obtain ⟨x8, hx8, h⟩ := bindE h
  refine NWp.opsJ ⟨tab [(3, .loc 0 0 l1.length), (4, vi i2), (5, .d (.int .u64 x8)), (6, vl2 a0), (7, vi (a0.length : Int)), (8, vi i2)], stab [(0, .lst false none (List.map (D.int .i64) l1))], 1⟩ ?_ ?_
  ·
   refine q1 _ ?_
   refine step (v := .d (.cptr none (.int .u64 x8) 0)) (st_iaddr (xs := a0) (e := (D.int .u64)) hx8 rfl rfl) ?_
   iterate 3 refine q1 _ ?_
   exact nR [0]
  obtain ⟨q17, hl, h⟩ := bindE h
  obtain ⟨z15, z16⟩ := q17
  refine NWp.block ?_
  refine loop_whK (fun (qq : ((List Int) × Int)) => ⟨tab [(3, .loc 0 0 qq.1.length), (4, vi i2), (5, .d (.int .u64 qq.2)), (6, vl2 a0), (7, vi (a0.length : Int)), (8, vi i2)], stab [(0, .lst false none (List.map (D.int .i64) qq.1))], 1⟩) 2 (fun (qq : ((List Int) × Int)) => ⟨tab [(3, .loc 0 0 qq.1.length), (6, vl2 a0), (7, vi (a0.length : Int)), (8, vi i2)], stab [(0, .lst false none (List.map (D.int .i64) qq.1))], 1⟩) hl ?_ ?_
  ·
   rintro ⟨l9, i10⟩ xr11 h
   show NWp _ _ _ _ _ ⟨tab [(3, .loc 0 0 l9.length), (4, vi i2), (5, .d (.int .u64 i10)), (6, vl2 a0), (7, vi (a0.length : Int)), (8, vi i2)], stab [(0, .lst false none (List.map (D.int .i64) l9))], 1⟩
   refine NWp.seq ?_
   refine NWp.opsJ ⟨tab [(3, .loc 0 0 l9.length), (4, vi i2), (5, .d (.int .u64 i10)), (6, vl2 a0), (7, vi (a0.length : Int)), (8, vi i2), (14, vb (i10 != 0))], stab [(0, .lst false none (List.map (D.int .i64) l9))], 1⟩ ?_ ?_
   ·
    iterate 2 refine q1 _ ?_
    exact nR [0]
   by_cases hc12 : (i10 != 0) = true
   ·
    replace h := iteT hc12 h
    refine NWp.condT (t := (i10 != 0)) rfl hc12 ?_
    refine NWp.skip ?_
    refine NWp.seq ?_
    refine NWp.block ?_
    obtain ⟨r13, hr13, h⟩ := bindE h
    obtain ⟨l14, hl14, h⟩ := bindE h
    refine NWp.opsE ⟨tab [(3, .loc 0 0 l14.length), (4, vi i2), (5, .d (.int .u64 i10)), (6, vl2 a0), (7, vi (a0.length : Int)), (8, vi i2)], stab [(0, .lst false none (List.map (D.int .i64) l14))], 1⟩ ?_ ?_
    ·
     iterate 4 refine q1 _ ?_
     refine stepC (r := .int .i64 r13) (ArgsOk.dt ArgsOk.nil') (c_math_bits_TrailingZeros64 hr13) ?_
     iterate 2 refine q1 _ ?_
     refine step (v := .loc 1 0 l14.length) (σ' := (upd (upd (stab [(0, .lst false none (List.map (D.int .i64) l9))]) 0 none) 1 (some (.lst false none (List.map (D.int .i64) l14))))) (n' := 2) (st_app (xs := l9) (ys := ([IntKind.i64.wrap ((IntKind.i64.wrap (64 * i2)) + r13)] : List Int)) (e := (D.int .i64)) hl14 rfl rfl rfl (src_v (xs := ([IntKind.i64.wrap ((IntKind.i64.wrap (64 * i2)) + r13)] : List Int)) (e := (D.int .i64)) rfl)) ?_
     refine q1 _ ?_
     exact nR [1]
    have hh := Option.some.inj h
    subst hh
    refine NWp.opsE ⟨tab [(3, .loc 0 0 l14.length), (4, vi i2), (5, .d (.int .u64 (andI .u64 i10 (IntKind.u64.wrap (i10 - 1))))), (6, vl2 a0), (7, vi (a0.length : Int)), (8, vi i2)], stab [(0, .lst false none (List.map (D.int .i64) l14))], 1⟩ ?_ ?_
    ·
     iterate 5 refine q1 _ ?_
     exact nR [0]
    exact And.intro rfl rfl
   ·
    replace h := iteF hc12 h
    refine NWp.condF (t := (i10 != 0)) rfl hc12 ?_
    have hh := Option.some.inj h
    subst hh
    refine NWp.norm (s0 := ⟨tab [(3, .loc 0 0 l9.length), (6, vl2 a0), (7, vi (a0.length : Int)), (8, vi i2)], stab [(0, .lst false none (List.map (D.int .i64) l9))], 1⟩) (nr [0]) ?_
    refine NWp.exit ?_
    exact And.intro rfl rfl
  have hh := Option.some.inj h
  subst hh
  refine NWp.opsE ⟨tab [(3, .loc 0 0 z15.length), (6, vl2 a0), (7, vi (a0.length : Int)), (8, vi (i2 + 1))], stab [(0, .lst false none (List.map (D.int .i64) z15))], 1⟩ ?_ ?_
  ·
   refine step (v := vi (i2 + 1)) (st_inc (inc_ok hinv5 hgo4 hB3) rfl rfl) ?_
   refine q1 _ ?_
   exact nR [0]
  exact And.intro rfl rfl
 ·
  rintro i2 l1 hinv5 hgo4
  show NWp _ _ _ _ _ ⟨tab [(3, .loc 0 0 l1.length), (6, vl2 a0), (7, vi (a0.length : Int)), (8, vi i2)], stab [(0, .lst false none (List.map (D.int .i64) l1))], 1⟩
  have hc6 : ¬ (decide (i2 < (a0.length : Int)) = true) := fun hq => hgo4 (of_decide_eq_true hq)
  refine NWp.opsJ ⟨tab [(3, .loc 0 0 l1.length), (6, vl2 a0), (7, vi (a0.length : Int)), (8, vi i2), (9, vb (decide (i2 < (a0.length : Int))))], stab [(0, .lst false none (List.map (D.int .i64) l1))], 1⟩ ?_ ?_
  ·
   refine q1 _ ?_
   exact nR [0]
  refine NWp.seq ?_
  refine NWp.condF (t := decide (i2 < (a0.length : Int))) rfl hc6 ?_
  refine NWp.norm (s0 := ⟨tab [(3, .loc 0 0 l1.length)], stab [(0, .lst false none (List.map (D.int .i64) l1))], 1⟩) (nr [0]) ?_
  refine NWp.exit ?_
  exact And.intro rfl rfl
 refine NWp.opsJ ⟨tab [(2, .loc 0 0 z18.length)], stab [(0, .lst false none (List.map (D.int .i64) z18))], 1⟩ ?_ ?_
 ·
  iterate 2 refine q1 _ ?_
  exact nR [0]
 have hh := Option.some.inj h
 subst hh
 refine NWp.ret ?_
 show FQ _ _ _ _
 exact FQ.mk1 (.inr rfl) (res_t (v := .loc 0 0 z18.length) rfl rfl) (RV.loc (xs := z18) (e := (D.int .i64)) rfl rfl trivial)

theorem c_cause_Ahead {a0 : (List api_Path)} {a1 : (List api_Step)} {a2 : Int} {r : ((List (List Int)) × Bool)} (h : cause_Ahead a0 a1 a2 = some r) : PCall Tryd.prog 8 [eL (some 6) eapi_Path a0, eL (some 18) eapi_Step a1, .int .i64 a2] (.tup [eL none (eL none (D.int .i64)) r.1, .bool r.2]) := by
 refine PCall.introN ok8 (show 3 ≤ 39 by decide) ?_
 refine NWp.norm (s0 := ⟨tab [(0, vl1 a0), (1, vl0 a1), (2, vi a2)], stab [], 0⟩) (nr []) ?_
 refine NWp.opsJ ⟨tab [(0, vl1 a0), (1, vl0 a1), (2, vi a2)], stab [], 0⟩ ?_ ?_
 ·
  iterate 2 refine q1 _ ?_
  exact nR []
 obtain ⟨r1, hr1, h⟩ := bindE h
 refine NWp.opsJ ⟨tab [(8, .d (eL none (eL none (D.int .u64)) r1.1)), (9, vb r1.2)], stab [], 0⟩ ?_ ?_
 ·
  iterate 3 refine q1 _ ?_
  refine stepC (r := .tup [eL none (eL none (D.int .u64)) r1.1, .bool r1.2]) (ArgsOk.dt (ArgsOk.dt (ArgsOk.dt ArgsOk.nil'))) (c_cause_look hr1) ?_
  iterate 5 refine q1 _ ?_
  exact nR []
 refine NWp.seq ?_
 refine NWp.opsJ ⟨tab [(8, .d (eL none (eL none (D.int .u64)) r1.1)), (21, vb (!r1.2))], stab [], 0⟩ ?_ ?_
 ·
  iterate 2 refine q1 _ ?_
  exact nR []
 by_cases hc2 : (!r1.2) = true
 ·
  replace h := iteT hc2 h
  refine NWp.condT (t := (!r1.2)) rfl hc2 ?_
  refine NWp.opsJ ⟨tab [(6, .d (eL none (eL none (D.int .i64)) ([] : List (List Int)))), (7, vb false)], stab [], 0⟩ ?_ ?_
  ·
   iterate 2 refine q1 _ ?_
   exact nR []
  have hh := Option.some.inj h
  subst hh
  refine NWp.ret ?_
  show FQ _ _ _ _
  exact FQ.mkT (.inr rfl) (res_t (v := .d (eL none (eL none (D.int .i64)) ([] : List (List Int)))) rfl (res_t (v := vb false) rfl rfl)) (RV.d (RV.d trivial))
 ·
  replace h := iteF hc2 h
  refine NWp.condF (t := (!r1.2)) rfl hc2 ?_
  refine NWp.skip ?_
  obtain ⟨l3, hl3, h⟩ := bindE h
  refine NWp.opsJ ⟨tab [(8, .d (eL none (eL none (D.int .u64)) r1.1)), (10, .loc 0 0 l3.length)], stab [(0, .lst true none (List.map (eL none (D.int .i64)) l3))], 1⟩ ?_ ?_
  ·
   refine q1 _ ?_
   refine step (v := vi (r1.1.length : Int)) (st_len (xs := r1.1) (e := (eL none (D.int .u64))) rfl) ?_
   refine step (v := .loc 0 0 l3.length) (σ' := (upd (stab []) 0 (some (.lst true none (List.map (eL none (D.int .i64)) l3))))) (n' := 1) (st_mk (e := (eL none (D.int .i64))) (z := []) hl3 rfl rfl (gmk_le hl3)) ?_
   refine q1 _ ?_
   exact nR [0]
  refine NWp.seq ?_
  refine NWp.opsJ ⟨tab [(10, .loc 0 0 l3.length), (25, .d (eL none (eL none (D.int .u64)) r1.1)), (26, vi (r1.1.length : Int)), (27, vi 0)], stab [(0, .lst true none (List.map (eL none (D.int .i64)) l3))], 1⟩ ?_ ?_
  ·
   refine q1 _ ?_
   refine step (v := vi (r1.1.length : Int)) (st_len (xs := r1.1) (e := (eL none (D.int .u64))) rfl) ?_
   refine q1 _ ?_
   exact nR [0]
  obtain ⟨z15, hl, h⟩ := bindE h
  refine NWp.block ?_
  refine loop_forO (cntU (r1.1.length : Int)) (fun (i5 : Int) (qq : (List (List Int))) => ⟨tab [(10, .loc 0 0 qq.length), (25, .d (eL none (eL none (D.int .u64)) r1.1)), (26, vi (r1.1.length : Int)), (27, vi i5)], stab [(0, .lst true none (List.map (eL none (D.int .i64)) qq))], 1⟩) 0 (fun (qq : (List (List Int))) => ⟨tab [(10, .loc 0 0 qq.length)], stab [(0, .lst true none (List.map (eL none (D.int .i64)) qq))], 1⟩) Low low_step hl (by unfold Low; omega) ?_ ?_ ?_
  ·
   rintro i5 l4 xr10 hinv8 hgo7 h
   show NWp _ _ _ _ _ ⟨tab [(10, .loc 0 0 l4.length), (25, .d (eL none (eL none (D.int .u64)) r1.1)), (26, vi (r1.1.length : Int)), (27, vi i5)], stab [(0, .lst true none (List.map (eL none (D.int .i64)) l4))], 1⟩
   have hc9 : decide (i5 < (r1.1.length : Int)) = true := decide_eq_true hgo7
   refine NWp.opsJ ⟨tab [(10, .loc 0 0 l4.length), (25, .d (eL none (eL none (D.int .u64)) r1.1)), (26, vi (r1.1.length : Int)), (27, vi i5), (28, vb (decide (i5 < (r1.1.length : Int))))], stab [(0, .lst true none (List.map (eL none (D.int .i64)) l4))], 1⟩ ?_ ?_
   ·
    refine q1 _ ?_
    exact nR [0]
   refine NWp.rng 26 rfl fun hB6 => ?_
   refine NWp.seq ?_
   refine NWp.condT (t := decide (i5 < (r1.1.length : Int))) rfl hc9 ?_
   refine NWp.skip ?_
   refine NWp.seq ?_
   refine NWp.block ?_
   obtain ⟨x11, hx11, h⟩ := bindE h
   refine NWp.opsJ ⟨tab [(10, .loc 0 0 l4.length), (11, vi i5), (12, vl2 x11), (25, .d (eL none (eL none (D.int .u64)) r1.1)), (26, vi (r1.1.length : Int)), (27, vi i5)], stab [(0, .lst true none (List.map (eL none (D.int .i64)) l4))], 1⟩ ?_ ?_
   ·
    refine q1 _ ?_
    refine step (v := .d (.cptr none (eL none (D.int .u64) x11) 0)) (st_iaddr (xs := r1.1) (e := (eL none (D.int .u64))) hx11 rfl rfl) ?_
    iterate 3 refine q1 _ ?_
    exact nR [0]
   obtain ⟨r12, hr12, h⟩ := bindE h
   obtain ⟨x13, hx13, h⟩ := bindE h
   obtain ⟨l14, hl14, h⟩ := bindE h
   refine NWp.opsE ⟨tab [(10, .loc 0 0 l14.length), (25, .d (eL none (eL none (D.int .u64)) r1.1)), (26, vi (r1.1.length : Int)), (27, vi i5)], stab [(0, .lst true none (List.map (eL none (D.int .i64)) l14))], 1⟩ ?_ ?_
   ·
    iterate 3 refine q1 _ ?_
    refine stepC (r := eL none (D.int .i64) r12) (ArgsOk.dt ArgsOk.nil') (c_cause_steps_list hr12) ?_
    refine step (v := .ptr 0 i5.toNat 0) (st_iaddrL (xs := l4) (e := (eL none (D.int .i64))) hx13 rfl rfl rfl rfl) ?_
    refine step (v := V.undef) (σ' := (upd (stab [(0, .lst true none (List.map (eL none (D.int .i64)) l4))]) 0 (some (.lst true none (List.map (eL none (D.int .i64)) l14))))) (n' := 1) (st_storeL' (e := (eL none (D.int .i64))) (v' := r12) hl14 rfl rfl rfl rfl rfl) ?_
    exact RunOps.nil' (nm [0] ⟨.le (id := 0) (gput_len hl14).symm (show 0 < 1 by decide), .d _, .d _, .d _, trivial⟩ ⟨⟨show 0 < 1 by decide, _, rfl, .lst _ _ _⟩, trivial⟩)
   have hh := Option.some.inj h
   subst hh
   refine NWp.opsE ⟨tab [(10, .loc 0 0 l14.length), (25, .d (eL none (eL none (D.int .u64)) r1.1)), (26, vi (r1.1.length : Int)), (27, vi (i5 + 1))], stab [(0, .lst true none (List.map (eL none (D.int .i64)) l14))], 1⟩ ?_ ?_
   ·
    refine step (v := vi (i5 + 1)) (st_inc (inc_ok hinv8 hgo7 hB6) rfl rfl) ?_
    refine q1 _ ?_
    exact nR [0]
   exact And.intro rfl rfl
  ·
   rintro i5 l4 hinv8 hgo7
   show NWp _ _ _ _ _ ⟨tab [(10, .loc 0 0 l4.length), (25, .d (eL none (eL none (D.int .u64)) r1.1)), (26, vi (r1.1.length : Int)), (27, vi i5)], stab [(0, .lst true none (List.map (eL none (D.int .i64)) l4))], 1⟩
   have hc9 : ¬ (decide (i5 < (r1.1.length : Int)) = true) := fun hq => hgo7 (of_decide_eq_true hq)
   refine NWp.opsJ ⟨tab [(10, .loc 0 0 l4.length), (25, .d (eL none (eL none (D.int .u64)) r1.1)), (26, vi (r1.1.length : Int)), (27, vi i5), (28, vb (decide (i5 < (r1.1.length : Int))))], stab [(0, .lst true none (List.map (eL none (D.int .i64)) l4))], 1⟩ ?_ ?_
   ·
    refine q1 _ ?_
    exact nR [0]
   refine NWp.seq ?_
   refine NWp.condF (t := decide (i5 < (r1.1.length : Int))) rfl hc9 ?_
   refine NWp.norm (s0 := ⟨tab [(10, .loc 0 0 l4.length)], stab [(0, .lst true none (List.map (eL none (D.int .i64)) l4))], 1⟩) (nr [0]) ?_
   refine NWp.exit ?_
   exact And.intro rfl rfl
  refine NWp.opsJ ⟨tab [(6, .loc 0 0 z15.length), (7, vb true)], stab [(0, .lst true none (List.map (eL none (D.int .i64)) z15))], 1⟩ ?_ ?_
  ·
   iterate 3 refine q1 _ ?_
   exact nR [0]
  have hh := Option.some.inj h
  subst hh
  refine NWp.ret ?_
  show FQ _ _ _ _
  exact FQ.mkT (.inr rfl) (res_t (v := .loc 0 0 z15.length) rfl (res_t (v := vb true) rfl rfl)) (RV.loc (xs := z15) (e := (eL none (D.int .i64))) rfl rfl (RV.d trivial))

theorem c_cause_Known {a0 : (List api_Path)} {a1 : (List api_Step)} {a2 : Int} {r : ((List Int) × Bool)} (h : cause_Known a0 a1 a2 = some r) : PCall Tryd.prog 9 [eL (some 6) eapi_Path a0, eL (some 18) eapi_Step a1, .int .i64 a2] (.tup [eL none (D.int .u64) r.1, .bool r.2]) := by
 refine PCall.introN ok9 (show 3 ≤ 56 by decide) ?_
 refine NWp.norm (s0 := ⟨tab [(0, vl1 a0), (1, vl0 a1), (2, vi a2)], stab [], 0⟩) (nr []) ?_
 refine NWp.opsJ ⟨tab [(0, vl1 a0), (1, vl0 a1), (2, vi a2)], stab [], 0⟩ ?_ ?_
 ·
  iterate 2 refine q1 _ ?_
  exact nR []
 obtain ⟨r1, hr1, h⟩ := bindE h
 refine NWp.opsJ ⟨tab [(1, vl0 a1), (8, .d (eL none (eL none (D.int .u64)) r1.1)), (9, vb r1.2)], stab [], 0⟩ ?_ ?_
 ·
  iterate 3 refine q1 _ ?_
  refine stepC (r := .tup [eL none (eL none (D.int .u64)) r1.1, .bool r1.2]) (ArgsOk.dt (ArgsOk.dt (ArgsOk.dt ArgsOk.nil'))) (c_cause_look hr1) ?_
  iterate 5 refine q1 _ ?_
  exact nR []
 refine NWp.seq ?_
 refine NWp.opsJ ⟨tab [(1, vl0 a1), (8, .d (eL none (eL none (D.int .u64)) r1.1)), (23, vb (!r1.2))], stab [], 0⟩ ?_ ?_
 ·
  iterate 2 refine q1 _ ?_
  exact nR []
 by_cases hc2 : (!r1.2) = true
 ·
  replace h := iteT hc2 h
  refine NWp.condT (t := (!r1.2)) rfl hc2 ?_
  refine NWp.opsJ ⟨tab [(6, vl2 ([] : List Int)), (7, vb false)], stab [], 0⟩ ?_ ?_
  ·
   iterate 2 refine q1 _ ?_
   exact nR []
  have hh := Option.some.inj h
  subst hh
  refine NWp.ret ?_
  show FQ _ _ _ _
  exact FQ.mkT (.inr rfl) (res_t (v := vl2 ([] : List Int)) rfl (res_t (v := vb false) rfl rfl)) (RV.d (RV.d trivial))
 ·
  replace h := iteF hc2 h
  refine NWp.condF (t := (!r1.2)) rfl hc2 ?_
  refine NWp.skip ?_
  obtain ⟨l3, hl3, h⟩ := bindE h
  refine NWp.opsJ ⟨tab [(1, vl0 a1), (8, .d (eL none (eL none (D.int .u64)) r1.1)), (10, .loc 0 0 l3.length)], stab [(0, .lst true none (List.map (D.int .u64) l3))], 1⟩ ?_ ?_
  ·
   refine q1 _ ?_
   refine step (v := vi (r1.1.length : Int)) (st_len (xs := r1.1) (e := (eL none (D.int .u64))) rfl) ?_
   refine step (v := .loc 0 0 l3.length) (σ' := (upd (stab []) 0 (some (.lst true none (List.map (D.int .u64) l3))))) (n' := 1) (st_mk (e := (D.int .u64)) (z := 0) hl3 rfl rfl (gmk_le hl3)) ?_
   refine q1 _ ?_
   exact nR [0]
  refine NWp.seq ?_
  refine NWp.opsJ ⟨tab [(1, vl0 a1), (10, .loc 0 0 l3.length), (27, .d (eL none (eL none (D.int .u64)) r1.1)), (28, vi (r1.1.length : Int)), (29, vi 0)], stab [(0, .lst true none (List.map (D.int .u64) l3))], 1⟩ ?_ ?_
  ·
   refine q1 _ ?_
   refine step (v := vi (r1.1.length : Int)) (st_len (xs := r1.1) (e := (eL none (D.int .u64))) rfl) ?_
   refine q1 _ ?_
   exact nR [0]
  obtain ⟨z26, hl, h⟩ := bindE h
  refine NWp.block ?_
  refine loop_forO (cntU (r1.1.length : Int)) (fun (i5 : Int) (qq : (List Int)) => ⟨tab [(1, vl0 a1), (10, .loc 0 0 qq.length), (27, .d (eL none (eL none (D.int .u64)) r1.1)), (28, vi (r1.1.length : Int)), (29, vi i5)], stab [(0, .lst true none (List.map (D.int .u64) qq))], 1⟩) 0 (fun (qq : (List Int)) => ⟨tab [(10, .loc 0 0 qq.length)], stab [(0, .lst true none (List.map (D.int .u64) qq))], 1⟩) Low low_step hl (by unfold Low; omega) ?_ ?_ ?_
  ·
   rintro i5 l4 xr10 hinv8 hgo7 h
   show NWp _ _ _ _ _ ⟨tab [(1, vl0 a1), (10, .loc 0 0 l4.length), (27, .d (eL none (eL none (D.int .u64)) r1.1)), (28, vi (r1.1.length : Int)), (29, vi i5)], stab [(0, .lst true none (List.map (D.int .u64) l4))], 1⟩
   have hc9 : decide (i5 < (r1.1.length : Int)) = true := decide_eq_true hgo7
   refine NWp.opsJ ⟨tab [(1, vl0 a1), (10, .loc 0 0 l4.length), (27, .d (eL none (eL none (D.int .u64)) r1.1)), (28, vi (r1.1.length : Int)), (29, vi i5), (30, vb (decide (i5 < (r1.1.length : Int))))], stab [(0, .lst true none (List.map (D.int .u64) l4))], 1⟩ ?_ ?_
   ·
    refine q1 _ ?_
    exact nR [0]
   refine NWp.rng 28 rfl fun hB6 => ?_
   refine NWp.seq ?_
   refine NWp.condT (t := decide (i5 < (r1.1.length : Int))) rfl hc9 ?_
   refine NWp.skip ?_
   refine NWp.seq ?_
   refine NWp.block ?_
   obtain ⟨x11, hx11, h⟩ := bindE h
   refine NWp.opsJ ⟨tab [(1, vl0 a1), (10, .loc 0 0 l4.length), (11, vi i5), (12, vl2 x11), (27, .d (eL none (eL none (D.int .u64)) r1.1)), (28, vi (r1.1.length : Int)), (29, vi i5)], stab [(0, .lst true none (List.map (D.int .u64) l4))], 1⟩ ?_ ?_
   ·
    refine q1 _ ?_
    refine step (v := .d (.cptr none (eL none (D.int .u64) x11) 0)) (st_iaddr (xs := r1.1) (e := (eL none (D.int .u64))) hx11 rfl rfl) ?_
    iterate 3 refine q1 _ ?_
    exact nR [0]
   obtain ⟨r12, hr12, h⟩ := bindE h
   refine NWp.opsJ ⟨tab [(1, vl0 a1), (10, .loc 0 0 l4.length), (11, vi i5), (27, .d (eL none (eL none (D.int .u64)) r1.1)), (28, vi (r1.1.length : Int)), (29, vi i5), (35, vl4 r12), (36, vi (r12.length : Int)), (37, vi 0)], stab [(0, .lst true none (List.map (D.int .u64) l4))], 1⟩ ?_ ?_
   ·
    refine q1 _ ?_
    refine stepC (r := eL none (D.int .i64) r12) (ArgsOk.dt ArgsOk.nil') (c_cause_steps_list hr12) ?_
    refine step (v := vi (r12.length : Int)) (st_len (xs := r12) (e := (D.int .i64)) rfl) ?_
    refine q1 _ ?_
    exact nR [0]
   obtain ⟨z24, hl, h⟩ := bindE h
   refine NWp.block ?_
   refine loop_forO (cntU (r12.length : Int)) (fun (i14 : Int) (qq : (List Int)) => ⟨tab [(1, vl0 a1), (10, .loc 0 0 qq.length), (11, vi i5), (27, .d (eL none (eL none (D.int .u64)) r1.1)), (28, vi (r1.1.length : Int)), (29, vi i5), (35, vl4 r12), (36, vi (r12.length : Int)), (37, vi i14)], stab [(0, .lst true none (List.map (D.int .u64) qq))], 1⟩) 2 (fun (qq : (List Int)) => ⟨tab [(1, vl0 a1), (10, .loc 0 0 qq.length), (27, .d (eL none (eL none (D.int .u64)) r1.1)), (28, vi (r1.1.length : Int)), (29, vi i5)], stab [(0, .lst true none (List.map (D.int .u64) qq))], 1⟩) Low low_step hl (by unfold Low; omega) ?_ ?_ ?_
   ·
    rintro i14 l13 xr19 hinv17 hgo16 h
    show NWp _ _ _ _ _ ⟨tab [(1, vl0 a1), (10, .loc 0 0 l13.length), (11, vi i5), (27, .d (eL none (eL none (D.int .u64)) r1.1)), (28, vi (r1.1.length : Int)), (29, vi i5), (35, vl4 r12), (36, vi (r12.length : Int)), (37, vi i14)], stab [(0, .lst true none (List.map (D.int .u64) l13))], 1⟩
    have hc18 : decide (i14 < (r12.length : Int)) = true := decide_eq_true hgo16
    refine NWp.opsJ ⟨tab [(1, vl0 a1), (10, .loc 0 0 l13.length), (11, vi i5), (27, .d (eL none (eL none (D.int .u64)) r1.1)), (28, vi (r1.1.length : Int)), (29, vi i5), (35, vl4 r12), (36, vi (r12.length : Int)), (37, vi i14), (38, vb (decide (i14 < (r12.length : Int))))], stab [(0, .lst true none (List.map (D.int .u64) l13))], 1⟩ ?_ ?_
    ·
     refine q1 _ ?_
     exact nR [0]
    refine NWp.rng 36 rfl fun hB15 => ?_
    refine NWp.seq ?_
    refine NWp.condT (t := decide (i14 < (r12.length : Int))) rfl hc18 ?_
    refine NWp.skip ?_
    refine NWp.seq ?_
    refine NWp.block ?_
    obtain ⟨x20, hx20, h⟩ := bindE h
    refine NWp.opsJ ⟨tab [(1, vl0 a1), (10, .loc 0 0 l13.length), (11, vi i5), (14, vi x20), (27, .d (eL none (eL none (D.int .u64)) r1.1)), (28, vi (r1.1.length : Int)), (29, vi i5), (35, vl4 r12), (36, vi (r12.length : Int)), (37, vi i14)], stab [(0, .lst true none (List.map (D.int .u64) l13))], 1⟩ ?_ ?_
    ·
     refine step (v := .d (.cptr none (.int .i64 x20) 0)) (st_iaddr (xs := r12) (e := (D.int .i64)) hx20 rfl rfl) ?_
     iterate 2 refine q1 _ ?_
     exact nR [0]
    obtain ⟨x21, hx21, h⟩ := bindE h
    obtain ⟨x22, hx22, h⟩ := bindE h
    obtain ⟨l23, hl23, h⟩ := bindE h
    refine NWp.opsE ⟨tab [(1, vl0 a1), (10, .loc 0 0 l23.length), (11, vi i5), (27, .d (eL none (eL none (D.int .u64)) r1.1)), (28, vi (r1.1.length : Int)), (29, vi i5), (35, vl4 r12), (36, vi (r12.length : Int)), (37, vi i14)], stab [(0, .lst true none (List.map (D.int .u64) l23))], 1⟩ ?_ ?_
    ·
     iterate 2 refine q1 _ ?_
     refine step (v := .ptr 0 i5.toNat 0) (st_iaddrL (xs := l13) (e := (D.int .u64)) hx21 rfl rfl rfl rfl) ?_
     refine step (v := .d (.int .u64 x21)) (st_loadL (xs := l13) (e := (D.int .u64)) hx21 rfl rfl rfl) ?_
     iterate 2 refine q1 _ ?_
     refine step (v := vp0 x22) (st_iaddr (xs := a1) (e := eapi_Step) hx22 rfl rfl) ?_
     iterate 4 refine q1 _ ?_
     refine step (v := .ptr 0 i5.toNat 0) (st_iaddrL (xs := l13) (e := (D.int .u64)) hx21 rfl rfl rfl rfl) ?_
     refine step (v := V.undef) (σ' := (upd (stab [(0, .lst true none (List.map (D.int .u64) l13))]) 0 (some (.lst true none (List.map (D.int .u64) l23))))) (n' := 1) (st_storeL' (e := (D.int .u64)) (v' := orI .u64 x21 x22.Hop.New) hl23 rfl rfl rfl rfl rfl) ?_
     exact RunOps.nil' (nm [0] ⟨.d _, .le (id := 0) (gput_len hl23).symm (show 0 < 1 by decide), .d _, .d _, .d _, .d _, .d _, .d _, .d _, trivial⟩ ⟨⟨show 0 < 1 by decide, _, rfl, .lst _ _ _⟩, trivial⟩)
    have hh := Option.some.inj h
    subst hh
    refine NWp.opsE ⟨tab [(1, vl0 a1), (10, .loc 0 0 l23.length), (11, vi i5), (27, .d (eL none (eL none (D.int .u64)) r1.1)), (28, vi (r1.1.length : Int)), (29, vi i5), (35, vl4 r12), (36, vi (r12.length : Int)), (37, vi (i14 + 1))], stab [(0, .lst true none (List.map (D.int .u64) l23))], 1⟩ ?_ ?_
    ·
     refine step (v := vi (i14 + 1)) (st_inc (inc_ok hinv17 hgo16 hB15) rfl rfl) ?_
     refine q1 _ ?_
     exact nR [0]
    exact And.intro rfl rfl
   ·
    rintro i14 l13 hinv17 hgo16
    show NWp _ _ _ _ _ ⟨tab [(1, vl0 a1), (10, .loc 0 0 l13.length), (11, vi i5), (27, .d (eL none (eL none (D.int .u64)) r1.1)), (28, vi (r1.1.length : Int)), (29, vi i5), (35, vl4 r12), (36, vi (r12.length : Int)), (37, vi i14)], stab [(0, .lst true none (List.map (D.int .u64) l13))], 1⟩
    have hc18 : ¬ (decide (i14 < (r12.length : Int)) = true) := fun hq => hgo16 (of_decide_eq_true hq)
    refine NWp.opsJ ⟨tab [(1, vl0 a1), (10, .loc 0 0 l13.length), (11, vi i5), (27, .d (eL none (eL none (D.int .u64)) r1.1)), (28, vi (r1.1.length : Int)), (29, vi i5), (35, vl4 r12), (36, vi (r12.length : Int)), (37, vi i14), (38, vb (decide (i14 < (r12.length : Int))))], stab [(0, .lst true none (List.map (D.int .u64) l13))], 1⟩ ?_ ?_
    ·
     refine q1 _ ?_
     exact nR [0]
    refine NWp.seq ?_
    refine NWp.condF (t := decide (i14 < (r12.length : Int))) rfl hc18 ?_
    refine NWp.norm (s0 := ⟨tab [(1, vl0 a1), (10, .loc 0 0 l13.length), (27, .d (eL none (eL none (D.int .u64)) r1.1)), (28, vi (r1.1.length : Int)), (29, vi i5)], stab [(0, .lst true none (List.map (D.int .u64) l13))], 1⟩) (nr [0]) ?_
    refine NWp.exit ?_
    exact And.intro rfl rfl
   have hh := Option.some.inj h
   subst hh
   refine NWp.opsE ⟨tab [(1, vl0 a1), (10, .loc 0 0 z24.length), (27, .d (eL none (eL none (D.int .u64)) r1.1)), (28, vi (r1.1.length : Int)), (29, vi (i5 + 1))], stab [(0, .lst true none (List.map (D.int .u64) z24))], 1⟩ ?_ ?_
   ·
    refine step (v := vi (i5 + 1)) (st_inc (inc_ok hinv8 hgo7 hB6) rfl rfl) ?_
    refine q1 _ ?_
    exact nR [0]
   exact And.intro rfl rfl
  ·
   rintro i5 l4 hinv8 hgo7
   show NWp _ _ _ _ _ ⟨tab [(1, vl0 a1), (10, .loc 0 0 l4.length), (27, .d (eL none (eL none (D.int .u64)) r1.1)), (28, vi (r1.1.length : Int)), (29, vi i5)], stab [(0, .lst true none (List.map (D.int .u64) l4))], 1⟩
   have hc9 : ¬ (decide (i5 < (r1.1.length : Int)) = true) := fun hq => hgo7 (of_decide_eq_true hq)
   refine NWp.opsJ ⟨tab [(1, vl0 a1), (10, .loc 0 0 l4.length), (27, .d (eL none (eL none (D.int .u64)) r1.1)), (28, vi (r1.1.length : Int)), (29, vi i5), (30, vb (decide (i5 < (r1.1.length : Int))))], stab [(0, .lst true none (List.map (D.int .u64) l4))], 1⟩ ?_ ?_
   ·
    refine q1 _ ?_
    exact nR [0]
   refine NWp.seq ?_
   refine NWp.condF (t := decide (i5 < (r1.1.length : Int))) rfl hc9 ?_
   refine NWp.norm (s0 := ⟨tab [(10, .loc 0 0 l4.length)], stab [(0, .lst true none (List.map (D.int .u64) l4))], 1⟩) (nr [0]) ?_
   refine NWp.exit ?_
   exact And.intro rfl rfl
  refine NWp.opsJ ⟨tab [(6, .loc 0 0 z26.length), (7, vb true)], stab [(0, .lst true none (List.map (D.int .u64) z26))], 1⟩ ?_ ?_
  ·
   iterate 3 refine q1 _ ?_
   exact nR [0]
  have hh := Option.some.inj h
  subst hh
  refine NWp.ret ?_
  show FQ _ _ _ _
  exact FQ.mkT (.inr rfl) (res_t (v := .loc 0 0 z26.length) rfl (res_t (v := vb true) rfl rfl)) (RV.loc (xs := z26) (e := (D.int .u64)) rfl rfl (RV.d trivial))

theorem c_events_bit {a0 : Int} {r : Int} (h : events_bit a0 = some r) : PCall Tryd.prog 18 [.int .i64 a0] (.int .u64 r) := by
 refine PCall.introN ok18 (show 1 ≤ 11 by decide) ?_
 refine NWp.norm (s0 := ⟨tab [(0, vi a0)], stab [], 0⟩) (nr []) ?_
 refine NWp.opsJ ⟨tab [(0, vi a0)], stab [], 0⟩ ?_ ?_
 ·
  refine q1 _ ?_
  exact nR []
 refine NWp.seq ?_
 refine NWp.opsJ ⟨tab [(0, vi a0), (8, vb ((decide (a0 < 0)) || (decide (a0 ≥ 64))))], stab [], 0⟩ ?_ ?_
 ·
  iterate 3 refine q1 _ ?_
  by_cases hg1 : decide (a0 < 0) = true
  ·
   iterate 2 refine qX (decide (a0 < 0)) (by rw [hg1]; decide) ?_
   refine step (v := vb true) (st_pickT (b := decide (a0 < 0)) rfl hg1 rfl) ?_
   exact RunOps.nil' (nm [] ⟨.d _, .eq (by first | (simp [hg1]; done) | (simp_all; done) | grind), trivial⟩ trivial)
  ·
   refine qG (decide (a0 < 0)) (Bool.eq_false_iff.2 hg1) ?_
   refine q1 _ ?_
   refine qG (decide (a0 < 0)) (Bool.eq_false_iff.2 hg1) ?_
   refine q1 _ ?_
   refine step (v := vb (decide (a0 ≥ 64))) (st_pickF (b := decide (a0 < 0)) rfl hg1 rfl) ?_
   exact RunOps.nil' (nm [] ⟨.d _, .eq (by first | (simp [hg1]; done) | (simp_all; done) | grind), trivial⟩ trivial)
 by_cases hc2 : ((decide (a0 < 0)) || (decide (a0 ≥ 64))) = true
 ·
  replace h := iteT hc2 h
  refine NWp.condT (t := ((decide (a0 < 0)) || (decide (a0 ≥ 64)))) rfl hc2 ?_
  refine NWp.opsJ ⟨tab [(2, .d (.int .u64 0))], stab [], 0⟩ ?_ ?_
  ·
   refine q1 _ ?_
   exact nR []
  have hh := Option.some.inj h
  subst hh
  refine NWp.ret ?_
  show FQ _ _ _ _
  exact FQ.mk1 (.inr rfl) (res_t (v := .d (.int .u64 0)) rfl rfl) (RV.d trivial)
 ·
  replace h := iteF hc2 h
  refine NWp.condF (t := ((decide (a0 < 0)) || (decide (a0 ≥ 64)))) rfl hc2 ?_
  refine NWp.skip ?_
  obtain ⟨q3, hq3, h⟩ := bindE h
  refine NWp.opsJ ⟨tab [(2, .d (.int .u64 q3))], stab [], 0⟩ ?_ ?_
  ·
   refine q1 _ ?_
   refine step (v := .d (.int .u64 q3)) (st_shl hq3 rfl rfl) ?_
   refine q1 _ ?_
   exact nR []
  have hh := Option.some.inj h
  subst hh
  refine NWp.ret ?_
  show FQ _ _ _ _
  exact FQ.mk1 (.inr rfl) (res_t (v := .d (.int .u64 q3)) rfl rfl) (RV.d trivial)

theorem c_events_Has {a0 : Int} {a1 : Int} {r : Bool} (h : events_Has a0 a1 = some r) : PCall Tryd.prog 13 [.int .u64 a0, .int .i64 a1] (.bool r) := by
 refine PCall.introN ok13 (show 2 ≤ 10 by decide) ?_
 refine NWp.norm (s0 := ⟨tab [(0, .d (.int .u64 a0)), (1, vi a1)], stab [], 0⟩) (nr []) ?_
 refine NWp.opsJ ⟨tab [(0, .d (.int .u64 a0)), (1, vi a1)], stab [], 0⟩ ?_ ?_
 ·
  refine q1 _ ?_
  exact nR []
 obtain ⟨r1, hr1, h⟩ := bindE h
 refine NWp.opsJ ⟨tab [(4, vb ((andI .u64 a0 r1) != 0))], stab [], 0⟩ ?_ ?_
 ·
  iterate 2 refine q1 _ ?_
  refine stepC (r := .int .u64 r1) (ArgsOk.dt ArgsOk.nil') (c_events_bit hr1) ?_
  iterate 3 refine q1 _ ?_
  exact nR []
 have hh := Option.some.inj h
 subst hh
 refine NWp.ret ?_
 show FQ _ _ _ _
 exact FQ.mk1 (.inr rfl) (res_t (v := vb ((andI .u64 a0 r1) != 0)) rfl rfl) (RV.d trivial)

theorem c_cause_First_1 {a0 : api_Step} {a1 : Int} {r : Bool} (h : cause_First_1 a0 a1 = some r) : PCall Tryd.prog 12 [eapi_Step a0, .cptr none (.int .i64 a1) 0] (.bool r) := by
 refine PCall.introN ok12 (show 2 ≤ 9 by decide) ?_
 refine NWp.norm (s0 := ⟨tab [(0, .d (eapi_Step a0)), (1, .d (.cptr none (.int .i64 a1) 0))], stab [], 0⟩) (nr []) ?_
 refine NWp.opsJ ⟨tab [(1, .d (.cptr none (.int .i64 a1) 0)), (2, vp0 a0)], stab [], 0⟩ ?_ ?_
 ·
  iterate 2 refine q1 _ ?_
  exact nR []
 obtain ⟨r1, hr1, h⟩ := bindE h
 refine NWp.opsJ ⟨tab [(3, vb r1)], stab [], 0⟩ ?_ ?_
 ·
  iterate 4 refine q1 _ ?_
  refine stepC (r := .bool r1) (ArgsOk.dt (ArgsOk.dt ArgsOk.nil')) (c_events_Has hr1) ?_
  refine q1 _ ?_
  exact nR []
 have hh := Option.some.inj h
 subst hh
 refine NWp.ret ?_
 show FQ _ _ _ _
 exact FQ.mk1 (.inr rfl) (res_t (v := vb r1) rfl rfl) (RV.d trivial)

theorem c_slices_IndexFunc_api_Step {a0 : (List api_Step)} {a1 : api_Step → Option Bool} {g_a1 : D} (hf_a1 : Fn1 Tryd.prog g_a1 eapi_Step D.bool a1) {r : Int} (h : slices_IndexFunc_api_Step a0 a1 = some r) : PCall Tryd.prog 11 [eL (some 18) eapi_Step a0, g_a1] (.int .i64 r) := by
 obtain ⟨fn_a1, cap_a1, rfl, hc_a1⟩ := hf_a1
 refine PCall.introN ok11 (show 2 ≤ 19 by decide) ?_
 refine NWp.norm (s0 := ⟨tab [(0, vl0 a0), (1, .d (.func fn_a1 cap_a1))], stab [], 0⟩) (nr []) ?_
 refine NWp.opsJ ⟨tab [(0, vl0 a0), (1, .d (.func fn_a1 cap_a1))], stab [], 0⟩ ?_ ?_
 ·
  refine q1 _ ?_
  exact nR []
 refine NWp.seq ?_
 refine NWp.opsJ ⟨tab [(0, vl0 a0), (1, .d (.func fn_a1 cap_a1)), (7, vi (a0.length : Int)), (8, vi 0)], stab [], 0⟩ ?_ ?_
 ·
  refine q1 _ ?_
  refine step (v := vi (a0.length : Int)) (st_len (xs := a0) (e := eapi_Step) rfl) ?_
  refine q1 _ ?_
  exact nR []
 obtain ⟨q10, hl, h⟩ := bindE h
 refine NWp.block ?_
 refine loop_forR (cntU (a0.length : Int)) (fun (i1 : Int) (qq : Unit) => ⟨tab [(0, vl0 a0), (1, .d (.func fn_a1 cap_a1)), (7, vi (a0.length : Int)), (8, vi i1)], stab [], 0⟩) 0 (fun (qq : Unit) => ⟨tab [], stab [], 0⟩) Low low_step (r := r) hl (by unfold Low; omega) ?_ ?_ ?_ ?_
 ·
  rintro i1 ⟨⟩ xr6 hinv4 hgo3 h
  show NWp _ _ _ _ _ ⟨tab [(0, vl0 a0), (1, .d (.func fn_a1 cap_a1)), (7, vi (a0.length : Int)), (8, vi i1)], stab [], 0⟩
  have hc5 : decide (i1 < (a0.length : Int)) = true := decide_eq_true hgo3
  refine NWp.opsJ ⟨tab [(0, vl0 a0), (1, .d (.func fn_a1 cap_a1)), (7, vi (a0.length : Int)), (8, vi i1), (9, vb (decide (i1 < (a0.length : Int))))], stab [], 0⟩ ?_ ?_
  ·
   refine q1 _ ?_
   exact nR []
  refine NWp.rng 7 rfl fun hB2 => ?_
  refine NWp.seq ?_
  refine NWp.condT (t := decide (i1 < (a0.length : Int))) rfl hc5 ?_
  refine NWp.skip ?_
  refine NWp.seq ?_
  refine NWp.block ?_
  refine NWp.opsJ ⟨tab [(0, vl0 a0), (1, .d (.func fn_a1 cap_a1)), (5, vi i1), (7, vi (a0.length : Int)), (8, vi i1)], stab [], 0⟩ ?_ ?_
  ·
   iterate 2 refine q1 _ ?_
   exact nR []
  obtain ⟨x7, hx7, h⟩ := bindE h
  obtain ⟨x8, hx8, h⟩ := bindE h
  refine NWp.opsJ ⟨tab [(0, vl0 a0), (1, .d (.func fn_a1 cap_a1)), (5, vi i1), (7, vi (a0.length : Int)), (8, vi i1), (16, vb x8)], stab [], 0⟩ ?_ ?_
  ·
   iterate 3 refine q1 _ ?_
   refine step (v := vp0 x7) (st_iaddr (xs := a0) (e := eapi_Step) hx7 rfl rfl) ?_
   refine q1 _ ?_
   refine stepV' (r := .bool x8) rfl (ArgsOk.dt ArgsOk.nil') (hc_a1 _ _ hx8) ?_
   exact nR []
  by_cases hc9 : x8 = true
  ·
   replace h := iteT hc9 h
   refine NWp.condT (t := x8) rfl hc9 ?_
   refine NWp.opsJ ⟨tab [(4, vi i1)], stab [], 0⟩ ?_ ?_
   ·
    iterate 2 refine q1 _ ?_
    exact nR []
   obtain ⟨r10, kr10, hr⟩ := mapE (o := some i1) (g := Br.ret) h
   subst hr
   have h := kr10
   have hh := Option.some.inj h
   subst hh
   refine NWp.ret ?_
   refine And.intro (fun hn => nomatch hn) ?_
   intro hq
   have hq := hq.symm
   subst hq
   show FQ _ _ _ _
   exact FQ.mk1 (.inr rfl) (res_t (v := vi i1) rfl rfl) (RV.d trivial)
  ·
   replace h := iteF hc9 h
   refine NWp.condF (t := x8) rfl hc9 ?_
   refine NWp.skip ?_
   have hh := Option.some.inj h
   subst hh
   refine NWp.opsE ⟨tab [(0, vl0 a0), (1, .d (.func fn_a1 cap_a1)), (7, vi (a0.length : Int)), (8, vi (i1 + 1))], stab [], 0⟩ ?_ ?_
   ·
    refine step (v := vi (i1 + 1)) (st_inc (inc_ok hinv4 hgo3 hB2) rfl rfl) ?_
    refine q1 _ ?_
    exact nR []
   exact And.intro rfl rfl
 ·
  rintro i1 ⟨⟩ hinv4 hgo3
  show NWp _ _ _ _ _ ⟨tab [(0, vl0 a0), (1, .d (.func fn_a1 cap_a1)), (7, vi (a0.length : Int)), (8, vi i1)], stab [], 0⟩
  have hc5 : ¬ (decide (i1 < (a0.length : Int)) = true) := fun hq => hgo3 (of_decide_eq_true hq)
  refine NWp.opsJ ⟨tab [(0, vl0 a0), (1, .d (.func fn_a1 cap_a1)), (7, vi (a0.length : Int)), (8, vi i1), (9, vb (decide (i1 < (a0.length : Int))))], stab [], 0⟩ ?_ ?_
  ·
   refine q1 _ ?_
   exact nR []
  refine NWp.seq ?_
  refine NWp.condF (t := decide (i1 < (a0.length : Int))) rfl hc5 ?_
  refine NWp.norm (s0 := ⟨tab [], stab [], 0⟩) (nr []) ?_
  refine NWp.exit ?_
  exact And.intro rfl rfl
 ·
  intro r' hq
  subst hq
  exact Option.some.inj h
 rintro ⟨⟩ rfl
 refine NWp.opsJ ⟨tab [(4, vi (-1))], stab [], 0⟩ ?_ ?_
 ·
  refine q1 _ ?_
  exact nR []
 have hh := Option.some.inj h
 subst hh
 refine NWp.ret ?_
 show FQ _ _ _ _
 exact FQ.mk1 (.inr rfl) (res_t (v := vi (-1)) rfl rfl) (RV.d trivial)

theorem c_cause_First {a0 : (List api_Step)} {a1 : Int} {r : Int} (h : cause_First a0 a1 = some r) : PCall Tryd.prog 6 [eL (some 18) eapi_Step a0, .int .i64 a1] (.int .i64 r) := by
 refine PCall.introN ok6 (show 2 ≤ 8 by decide) ?_
 refine NWp.norm (s0 := ⟨tab [(0, vl0 a0), (1, vi a1)], stab [], 0⟩) (nr []) ?_
 refine NWp.opsJ ⟨tab [(0, vl0 a0), (3, .d (.cptr none (.int .i64 a1) 0))], stab [], 0⟩ ?_ ?_
 ·
  iterate 2 refine q1 _ ?_
  exact nR []
 obtain ⟨r1, hr1, h⟩ := bindE h
 refine NWp.opsJ ⟨tab [(4, vi r1)], stab [], 0⟩ ?_ ?_
 ·
  iterate 2 refine q1 _ ?_
  refine stepC (r := .int .i64 r1) (ArgsOk.dt (ArgsOk.dt ArgsOk.nil')) (c_slices_IndexFunc_api_Step ⟨12, [.cptr none (.int .i64 a1) 0], rfl, fun _ _ h => c_cause_First_1 h⟩ hr1) ?_
  refine q1 _ ?_
  exact nR []
 have hh := Option.some.inj h
 subst hh
 refine NWp.ret ?_
 show FQ _ _ _ _
 exact FQ.mk1 (.inr rfl) (res_t (v := vi r1) rfl rfl) (RV.d trivial)

theorem c_law21_awake  {r : Bool} (h : law21_awake  = some r) : PCall Tryd.prog 4 [] (.bool r) := by
 refine PCall.introN ok4 (show 0 ≤ 68 by decide) ?_
 refine NWp.norm (s0 := ⟨tab [], stab [], 0⟩) (nr []) ?_
 refine NWp.opsJ ⟨tab [], stab [], 0⟩ ?_ ?_
 ·
  refine q1 _ ?_
  exact nR []
 refine NWp.opsJ ⟨tab [(1, vl0 ([(api_Step.mk 2 0 (api_Hop.mk (A8.mk 0 0 0 0 0 0 0 0) false 0 0 0 4 [] 0) (-1)), (api_Step.mk 5 0 (api_Hop.mk (A8.mk 0 0 0 0 0 0 0 0) false 0 0 0 0 [] 0) (-1)), (api_Step.mk 6 1 (api_Hop.mk (A8.mk 0 0 0 0 0 0 0 0) false 0 0 0 0 [] 0) (-1)), (api_Step.mk 2 1 (api_Hop.mk (A8.mk 0 0 0 0 0 0 0 0) false 0 0 0 0 [] 0) (-1))] : List api_Step))], stab [], 0⟩ ?_ ?_
 ·
  refine step (v := .d (eapi_Hop (api_Hop.mk (A8.mk 0 0 0 0 0 0 0 0) false 0 0 0 4 [] 0))) (st_build (ds := [.int .u16 0, .int .u16 0, .int .u16 0, .int .u16 0, .int .u16 0, .int .u16 0, .int .u16 0, .int .u16 0, .bool false, .int .u16 0, .int .u64 0, .int .u64 0, .int .u64 4, eL (some 8) (eA8 (D.int .u16)) [], .int .i64 0]) rfl) ?_
  refine step (v := .d (eapi_Step (api_Step.mk 2 0 (api_Hop.mk (A8.mk 0 0 0 0 0 0 0 0) false 0 0 0 4 [] 0) (-1)))) (st_build (ds := [.int .i64 2, .int .i64 0, .int .u16 0, .int .u16 0, .int .u16 0, .int .u16 0, .int .u16 0, .int .u16 0, .int .u16 0, .int .u16 0, .bool false, .int .u16 0, .int .u64 0, .int .u64 0, .int .u64 4, eL (some 8) (eA8 (D.int .u16)) [], .int .i64 0, .int .i64 (-1)]) rfl) ?_
  refine step (v := .d (eapi_Step (api_Step.mk 5 0 (api_Hop.mk (A8.mk 0 0 0 0 0 0 0 0) false 0 0 0 0 [] 0) (-1)))) (st_build (ds := [.int .i64 5, .int .i64 0, .int .u16 0, .int .u16 0, .int .u16 0, .int .u16 0, .int .u16 0, .int .u16 0, .int .u16 0, .int .u16 0, .bool false, .int .u16 0, .int .u64 0, .int .u64 0, .int .u64 0, eL (some 8) (eA8 (D.int .u16)) [], .int .i64 0, .int .i64 (-1)]) rfl) ?_
  refine step (v := .d (eapi_Step (api_Step.mk 6 1 (api_Hop.mk (A8.mk 0 0 0 0 0 0 0 0) false 0 0 0 0 [] 0) (-1)))) (st_build (ds := [.int .i64 6, .int .i64 1, .int .u16 0, .int .u16 0, .int .u16 0, .int .u16 0, .int .u16 0, .int .u16 0, .int .u16 0, .int .u16 0, .bool false, .int .u16 0, .int .u64 0, .int .u64 0, .int .u64 0, eL (some 8) (eA8 (D.int .u16)) [], .int .i64 0, .int .i64 (-1)]) rfl) ?_
  refine step (v := .d (eapi_Step (api_Step.mk 2 1 (api_Hop.mk (A8.mk 0 0 0 0 0 0 0 0) false 0 0 0 0 [] 0) (-1)))) (st_build (ds := [.int .i64 2, .int .i64 1, .int .u16 0, .int .u16 0, .int .u16 0, .int .u16 0, .int .u16 0, .int .u16 0, .int .u16 0, .int .u16 0, .bool false, .int .u16 0, .int .u64 0, .int .u64 0, .int .u64 0, eL (some 8) (eA8 (D.int .u16)) [], .int .i64 0, .int .i64 (-1)]) rfl) ?_
  iterate 2 refine q1 _ ?_
  exact nR []
 obtain ⟨r1, hr1, h⟩ := bindE h
 refine NWp.opsJ ⟨tab [(1, vl0 ([(api_Step.mk 2 0 (api_Hop.mk (A8.mk 0 0 0 0 0 0 0 0) false 0 0 0 4 [] 0) (-1)), (api_Step.mk 5 0 (api_Hop.mk (A8.mk 0 0 0 0 0 0 0 0) false 0 0 0 0 [] 0) (-1)), (api_Step.mk 6 1 (api_Hop.mk (A8.mk 0 0 0 0 0 0 0 0) false 0 0 0 0 [] 0) (-1)), (api_Step.mk 2 1 (api_Hop.mk (A8.mk 0 0 0 0 0 0 0 0) false 0 0 0 0 [] 0) (-1))] : List api_Step)), (2, .d (eL none (eL none (D.int .i64)) r1.1)), (3, vb r1.2)], stab [], 0⟩ ?_ ?_
 ·
  refine q1 _ ?_
  refine stepC (r := .tup [eL none (eL none (D.int .i64)) r1.1, .bool r1.2]) (ArgsOk.nl (ArgsOk.dt (ArgsOk.dt ArgsOk.nil'))) (c_cause_Ahead hr1) ?_
  iterate 5 refine q1 _ ?_
  exact nR []
 obtain ⟨r2, hr2, h⟩ := bindE h
 refine NWp.opsJ ⟨tab [(1, vl0 ([(api_Step.mk 2 0 (api_Hop.mk (A8.mk 0 0 0 0 0 0 0 0) false 0 0 0 4 [] 0) (-1)), (api_Step.mk 5 0 (api_Hop.mk (A8.mk 0 0 0 0 0 0 0 0) false 0 0 0 0 [] 0) (-1)), (api_Step.mk 6 1 (api_Hop.mk (A8.mk 0 0 0 0 0 0 0 0) false 0 0 0 0 [] 0) (-1)), (api_Step.mk 2 1 (api_Hop.mk (A8.mk 0 0 0 0 0 0 0 0) false 0 0 0 0 [] 0) (-1))] : List api_Step)), (2, .d (eL none (eL none (D.int .i64)) r1.1)), (3, vb r1.2), (4, vl2 r2.1), (5, vb r2.2)], stab [], 0⟩ ?_ ?_
 ·
  refine q1 _ ?_
  refine stepC (r := .tup [eL none (D.int .u64) r2.1, .bool r2.2]) (ArgsOk.nl (ArgsOk.dt (ArgsOk.dt ArgsOk.nil'))) (c_cause_Known hr2) ?_
  iterate 5 refine q1 _ ?_
  exact nR []
 obtain ⟨y17, hv, h⟩ := bindE h
 refine NWp.opsJ ⟨tab [(0, vb y17)], stab [], 0⟩ ?_ ?_
 ·
  iterate 2 refine q1 _ ?_
  by_cases hg3 : r1.2 = true
  ·
   replace hv := iteT hg3 hv
   refine qG _ hg3 ?_
   refine q1 _ ?_
   refine step (v := vb r2.2) (st_pickT (b := r1.2) rfl hg3 rfl) ?_
   refine q1 _ ?_
   by_cases hg4 : r2.2 = true
   ·
    replace hv := iteT hg4 hv
    refine qG _ hg4 ?_
    refine q1 _ ?_
    refine qG _ hg4 ?_
    refine step (v := vi (r1.1.length : Int)) (st_len (xs := r1.1) (e := (eL none (D.int .i64))) rfl) ?_
    refine qG _ hg4 ?_
    refine q1 _ ?_
    refine step (v := vb ((r1.1.length : Int) == 4)) (st_pickT (b := r2.2) rfl hg4 rfl) ?_
    refine q1 _ ?_
    by_cases hg5 : ((r1.1.length : Int) == 4) = true
    ·
     replace hv := iteT hg5 hv
     obtain ⟨x6, hx6, hv⟩ := bindE hv
     refine qG _ hg5 ?_
     refine q1 _ ?_
     refine qG _ hg5 ?_
     refine step (v := .d (.cptr none (eL none (D.int .i64) x6) 0)) (st_iaddr (xs := r1.1) (e := (eL none (D.int .i64))) hx6 rfl rfl) ?_
     refine qG _ hg5 ?_
     refine q1 _ ?_
     refine qG _ hg5 ?_
     refine step (v := vi (x6.length : Int)) (st_len (xs := x6) (e := (D.int .i64)) rfl) ?_
     refine qG _ hg5 ?_
     refine q1 _ ?_
     refine step (v := vb ((x6.length : Int) == 1)) (st_pickT (b := ((r1.1.length : Int) == 4)) rfl hg5 rfl) ?_
     refine q1 _ ?_
     by_cases hg7 : ((x6.length : Int) == 1) = true
     ·
      replace hv := iteT hg7 hv
      obtain ⟨x8, hx8, hv⟩ := bindE hv
      refine qG _ hg7 ?_
      refine q1 _ ?_
      refine qG _ hg7 ?_
      refine step (v := .d (.cptr none (eL none (D.int .i64) x6) 0)) (st_iaddr (xs := r1.1) (e := (eL none (D.int .i64))) hx6 rfl rfl) ?_
      refine qG _ hg7 ?_
      refine q1 _ ?_
      refine qG _ hg7 ?_
      refine step (v := .d (.cptr none (.int .i64 x8) 0)) (st_iaddr (xs := x6) (e := (D.int .i64)) hx8 rfl rfl) ?_
      refine qG _ hg7 ?_
      refine q1 _ ?_
      refine qG _ hg7 ?_
      refine q1 _ ?_
      refine step (v := vb (x8 == 0)) (st_pickT (b := ((x6.length : Int) == 1)) rfl hg7 rfl) ?_
      refine q1 _ ?_
      by_cases hg9 : (x8 == 0) = true
      ·
       replace hv := iteT hg9 hv
       obtain ⟨x10, hx10, hv⟩ := bindE hv
       refine qG _ hg9 ?_
       refine q1 _ ?_
       refine qG _ hg9 ?_
       refine step (v := .d (.cptr none (.int .u64 x10) 0)) (st_iaddr (xs := r2.1) (e := (D.int .u64)) hx10 rfl rfl) ?_
       refine qG _ hg9 ?_
       refine q1 _ ?_
       refine qG _ hg9 ?_
       refine q1 _ ?_
       refine step (v := vb (x10 == 4)) (st_pickT (b := (x8 == 0)) rfl hg9 rfl) ?_
       refine q1 _ ?_
       by_cases hg11 : (x10 == 4) = true
       ·
        replace hv := iteT hg11 hv
        obtain ⟨x12, hx12, hv⟩ := bindE hv
        refine qG _ hg11 ?_
        refine q1 _ ?_
        refine qG _ hg11 ?_
        refine step (v := .d (.cptr none (.int .u64 x12) 0)) (st_iaddr (xs := r2.1) (e := (D.int .u64)) hx12 rfl rfl) ?_
        refine qG _ hg11 ?_
        refine q1 _ ?_
        refine qG _ hg11 ?_
        refine q1 _ ?_
        refine step (v := vb (x12 == 0)) (st_pickT (b := (x10 == 4)) rfl hg11 rfl) ?_
        refine q1 _ ?_
        by_cases hg13 : (x12 == 0) = true
        ·
         replace hv := iteT hg13 hv
         obtain ⟨r14, hr14, hv⟩ := bindE hv
         refine qG _ hg13 ?_
         refine q1 _ ?_
         refine qG _ hg13 ?_
         refine stepC (r := .int .i64 r14) (ArgsOk.dt (ArgsOk.dt ArgsOk.nil')) (c_cause_First hr14) ?_
         refine qG _ hg13 ?_
         refine q1 _ ?_
         refine step (v := vb (r14 == 0)) (st_pickT (b := (x12 == 0)) rfl hg13 rfl) ?_
         refine q1 _ ?_
         by_cases hg15 : (r14 == 0) = true
         ·
          replace hv := iteT hg15 hv
          obtain ⟨r16, hr16, hv⟩ := bindE hv
          refine qG _ hg15 ?_
          refine q1 _ ?_
          refine qG _ hg15 ?_
          refine stepC (r := .int .i64 r16) (ArgsOk.dt (ArgsOk.dt ArgsOk.nil')) (c_cause_First hr16) ?_
          refine qG _ hg15 ?_
          refine q1 _ ?_
          refine step (v := vb (r16 == (-1))) (st_pickT (b := (r14 == 0)) rfl hg15 rfl) ?_
          refine q1 _ ?_
          have hh := Option.some.inj hv
          subst hh
          exact nR []
         ·
          replace hv := iteF hg15 hv
          iterate 3 refine qX _ hg15 ?_
          refine step (v := vb false) (st_pickF (b := (r14 == 0)) rfl hg15 rfl) ?_
          refine q1 _ ?_
          have hh := Option.some.inj hv
          subst hh
          exact nR []
        ·
         replace hv := iteF hg13 hv
         iterate 3 refine qX _ hg13 ?_
         refine step (v := vb false) (st_pickF (b := (x12 == 0)) rfl hg13 rfl) ?_
         refine q1 _ ?_
         iterate 3 refine qX false (by decide) ?_
         refine step (v := vb false) (st_pickF (b := false) rfl (by decide) rfl) ?_
         refine q1 _ ?_
         have hh := Option.some.inj hv
         subst hh
         exact nR []
       ·
        replace hv := iteF hg11 hv
        iterate 4 refine qX _ hg11 ?_
        refine step (v := vb false) (st_pickF (b := (x10 == 4)) rfl hg11 rfl) ?_
        refine q1 _ ?_
        iterate 3 refine qX false (by decide) ?_
        refine step (v := vb false) (st_pickF (b := false) rfl (by decide) rfl) ?_
        refine q1 _ ?_
        iterate 3 refine qX false (by decide) ?_
        refine step (v := vb false) (st_pickF (b := false) rfl (by decide) rfl) ?_
        refine q1 _ ?_
        have hh := Option.some.inj hv
        subst hh
        exact nR []
      ·
       replace hv := iteF hg9 hv
       iterate 4 refine qX _ hg9 ?_
       refine step (v := vb false) (st_pickF (b := (x8 == 0)) rfl hg9 rfl) ?_
       refine q1 _ ?_
       iterate 4 refine qX false (by decide) ?_
       refine step (v := vb false) (st_pickF (b := false) rfl (by decide) rfl) ?_
       refine q1 _ ?_
       iterate 3 refine qX false (by decide) ?_
       refine step (v := vb false) (st_pickF (b := false) rfl (by decide) rfl) ?_
       refine q1 _ ?_
       iterate 3 refine qX false (by decide) ?_
       refine step (v := vb false) (st_pickF (b := false) rfl (by decide) rfl) ?_
       refine q1 _ ?_
       have hh := Option.some.inj hv
       subst hh
       exact nR []
     ·
      replace hv := iteF hg7 hv
      iterate 6 refine qX _ hg7 ?_
      refine step (v := vb false) (st_pickF (b := ((x6.length : Int) == 1)) rfl hg7 rfl) ?_
      refine q1 _ ?_
      iterate 4 refine qX false (by decide) ?_
      refine step (v := vb false) (st_pickF (b := false) rfl (by decide) rfl) ?_
      refine q1 _ ?_
      iterate 4 refine qX false (by decide) ?_
      refine step (v := vb false) (st_pickF (b := false) rfl (by decide) rfl) ?_
      refine q1 _ ?_
      iterate 3 refine qX false (by decide) ?_
      refine step (v := vb false) (st_pickF (b := false) rfl (by decide) rfl) ?_
      refine q1 _ ?_
      iterate 3 refine qX false (by decide) ?_
      refine step (v := vb false) (st_pickF (b := false) rfl (by decide) rfl) ?_
      refine q1 _ ?_
      have hh := Option.some.inj hv
      subst hh
      exact nR []
    ·
     replace hv := iteF hg5 hv
     iterate 5 refine qX _ hg5 ?_
     refine step (v := vb false) (st_pickF (b := ((r1.1.length : Int) == 4)) rfl hg5 rfl) ?_
     refine q1 _ ?_
     iterate 6 refine qX false (by decide) ?_
     refine step (v := vb false) (st_pickF (b := false) rfl (by decide) rfl) ?_
     refine q1 _ ?_
     iterate 4 refine qX false (by decide) ?_
     refine step (v := vb false) (st_pickF (b := false) rfl (by decide) rfl) ?_
     refine q1 _ ?_
     iterate 4 refine qX false (by decide) ?_
     refine step (v := vb false) (st_pickF (b := false) rfl (by decide) rfl) ?_
     refine q1 _ ?_
     iterate 3 refine qX false (by decide) ?_
     refine step (v := vb false) (st_pickF (b := false) rfl (by decide) rfl) ?_
     refine q1 _ ?_
     iterate 3 refine qX false (by decide) ?_
     refine step (v := vb false) (st_pickF (b := false) rfl (by decide) rfl) ?_
     refine q1 _ ?_
     have hh := Option.some.inj hv
     subst hh
     exact nR []
   ·
    replace hv := iteF hg4 hv
    iterate 3 refine qX _ hg4 ?_
    refine step (v := vb false) (st_pickF (b := r2.2) rfl hg4 rfl) ?_
    refine q1 _ ?_
    iterate 5 refine qX false (by decide) ?_
    refine step (v := vb false) (st_pickF (b := false) rfl (by decide) rfl) ?_
    refine q1 _ ?_
    iterate 6 refine qX false (by decide) ?_
    refine step (v := vb false) (st_pickF (b := false) rfl (by decide) rfl) ?_
    refine q1 _ ?_
    iterate 4 refine qX false (by decide) ?_
    refine step (v := vb false) (st_pickF (b := false) rfl (by decide) rfl) ?_
    refine q1 _ ?_
    iterate 4 refine qX false (by decide) ?_
    refine step (v := vb false) (st_pickF (b := false) rfl (by decide) rfl) ?_
    refine q1 _ ?_
    iterate 3 refine qX false (by decide) ?_
    refine step (v := vb false) (st_pickF (b := false) rfl (by decide) rfl) ?_
    refine q1 _ ?_
    iterate 3 refine qX false (by decide) ?_
    refine step (v := vb false) (st_pickF (b := false) rfl (by decide) rfl) ?_
    refine q1 _ ?_
    have hh := Option.some.inj hv
    subst hh
    exact nR []
  ·
   replace hv := iteF hg3 hv
   refine qX _ hg3 ?_
   refine step (v := vb false) (st_pickF (b := r1.2) rfl hg3 rfl) ?_
   refine q1 _ ?_
   iterate 3 refine qX false (by decide) ?_
   refine step (v := vb false) (st_pickF (b := false) rfl (by decide) rfl) ?_
   refine q1 _ ?_
   iterate 5 refine qX false (by decide) ?_
   refine step (v := vb false) (st_pickF (b := false) rfl (by decide) rfl) ?_
   refine q1 _ ?_
   iterate 6 refine qX false (by decide) ?_
   refine step (v := vb false) (st_pickF (b := false) rfl (by decide) rfl) ?_
   refine q1 _ ?_
   iterate 4 refine qX false (by decide) ?_
   refine step (v := vb false) (st_pickF (b := false) rfl (by decide) rfl) ?_
   refine q1 _ ?_
   iterate 4 refine qX false (by decide) ?_
   refine step (v := vb false) (st_pickF (b := false) rfl (by decide) rfl) ?_
   refine q1 _ ?_
   iterate 3 refine qX false (by decide) ?_
   refine step (v := vb false) (st_pickF (b := false) rfl (by decide) rfl) ?_
   refine q1 _ ?_
   iterate 3 refine qX false (by decide) ?_
   refine step (v := vb false) (st_pickF (b := false) rfl (by decide) rfl) ?_
   refine q1 _ ?_
   have hh := Option.some.inj hv
   subst hh
   exact nR []
 have hh := Option.some.inj h
 subst hh
 refine NWp.ret ?_
 show FQ _ _ _ _
 exact FQ.mk1 (.inr rfl) (res_t (v := vb y17) rfl rfl) (RV.d trivial)

theorem c_ref02_pow {a0 : Int} {r : Int} (h : ref02_pow a0 = some r) : PCall Tryd.prog 10 [.int .i64 a0] (.int .u64 r) := by
 refine PCall.introN ok10 (show 1 ≤ 13 by decide) ?_
 refine NWp.norm (s0 := ⟨tab [(0, vi a0)], stab [], 0⟩) (nr []) ?_
 refine NWp.opsJ ⟨tab [(0, vi a0)], stab [], 0⟩ ?_ ?_
 ·
  refine q1 _ ?_
  exact nR []
 refine NWp.opsJ ⟨tab [(0, vi a0), (3, .d (.int .u64 1))], stab [], 0⟩ ?_ ?_
 ·
  refine q1 _ ?_
  exact nR []
 refine NWp.seq ?_
 refine NWp.opsJ ⟨tab [(0, vi a0), (3, .d (.int .u64 1)), (4, vi 0)], stab [], 0⟩ ?_ ?_
 ·
  refine q1 _ ?_
  exact nR []
 obtain ⟨z8, hl, h⟩ := bindE h
 refine NWp.block ?_
 refine loop_forO (cntU a0) (fun (i2 : Int) (qq : Int) => ⟨tab [(0, vi a0), (3, .d (.int .u64 qq)), (4, vi i2)], stab [], 0⟩) 0 (fun (qq : Int) => ⟨tab [(3, .d (.int .u64 qq))], stab [], 0⟩) Low low_step hl (by unfold Low; omega) ?_ ?_ ?_
 ·
  rintro i2 i1 xr7 hinv5 hgo4 h
  show NWp _ _ _ _ _ ⟨tab [(0, vi a0), (3, .d (.int .u64 i1)), (4, vi i2)], stab [], 0⟩
  have hc6 : decide (i2 < a0) = true := decide_eq_true hgo4
  refine NWp.seq ?_
  refine NWp.opsJ ⟨tab [(0, vi a0), (3, .d (.int .u64 i1)), (4, vi i2), (6, vi a0), (7, vb (decide (i2 < a0)))], stab [], 0⟩ ?_ ?_
  ·
   iterate 3 refine q1 _ ?_
   exact nR []
  refine NWp.rng 6 rfl fun hB3 => ?_
  refine NWp.condT (t := decide (i2 < a0)) rfl hc6 ?_
  refine NWp.skip ?_
  refine NWp.seq ?_
  refine NWp.block ?_
  refine NWp.opsE ⟨tab [(0, vi a0), (3, .d (.int .u64 (IntKind.u64.wrap (2 * i1)))), (4, vi i2)], stab [], 0⟩ ?_ ?_
  ·
   iterate 3 refine q1 _ ?_
   exact nR []
  have hh := Option.some.inj h
  subst hh
  refine NWp.opsE ⟨tab [(0, vi a0), (3, .d (.int .u64 (IntKind.u64.wrap (2 * i1)))), (4, vi (i2 + 1))], stab [], 0⟩ ?_ ?_
  ·
   refine q1 _ ?_
   refine step (v := vi (i2 + 1)) (st_inc (inc_ok hinv5 hgo4 hB3) rfl rfl) ?_
   refine q1 _ ?_
   exact nR []
  exact And.intro rfl rfl
 ·
  rintro i2 i1 hinv5 hgo4
  show NWp _ _ _ _ _ ⟨tab [(0, vi a0), (3, .d (.int .u64 i1)), (4, vi i2)], stab [], 0⟩
  have hc6 : ¬ (decide (i2 < a0) = true) := fun hq => hgo4 (of_decide_eq_true hq)
  refine NWp.seq ?_
  refine NWp.opsJ ⟨tab [(0, vi a0), (3, .d (.int .u64 i1)), (4, vi i2), (7, vb (decide (i2 < a0)))], stab [], 0⟩ ?_ ?_
  ·
   iterate 3 refine q1 _ ?_
   exact nR []
  refine NWp.condF (t := decide (i2 < a0)) rfl hc6 ?_
  refine NWp.norm (s0 := ⟨tab [(3, .d (.int .u64 i1))], stab [], 0⟩) (nr []) ?_
  refine NWp.exit ?_
  exact And.intro rfl rfl
 refine NWp.opsJ ⟨tab [(2, .d (.int .u64 z8))], stab [], 0⟩ ?_ ?_
 ·
  iterate 2 refine q1 _ ?_
  exact nR []
 have hh := Option.some.inj h
 subst hh
 refine NWp.ret ?_
 show FQ _ _ _ _
 exact FQ.mk1 (.inr rfl) (res_t (v := .d (.int .u64 z8)) rfl rfl) (RV.d trivial)

theorem c_ref02_Has {a0 : Int} {a1 : Int} {r : Bool} (h : ref02_Has a0 a1 = some r) : PCall Tryd.prog 5 [.int .u64 a0, .int .i64 a1] (.bool r) := by
 refine PCall.introN ok5 (show 2 ≤ 19 by decide) ?_
 refine NWp.norm (s0 := ⟨tab [(0, .d (.int .u64 a0)), (1, vi a1)], stab [], 0⟩) (nr []) ?_
 refine NWp.opsJ ⟨tab [(0, .d (.int .u64 a0)), (1, vi a1)], stab [], 0⟩ ?_ ?_
 ·
  refine q1 _ ?_
  exact nR []
 obtain ⟨y5, hv, h⟩ := bindE h
 refine NWp.opsJ ⟨tab [(4, vb y5)], stab [], 0⟩ ?_ ?_
 ·
  iterate 3 refine q1 _ ?_
  by_cases hg1 : decide (a1 ≥ 0) = true
  ·
   replace hv := iteT hg1 hv
   refine qG _ hg1 ?_
   refine q1 _ ?_
   refine qG _ hg1 ?_
   refine q1 _ ?_
   refine step (v := vb (decide (a1 < 64))) (st_pickT (b := decide (a1 ≥ 0)) rfl hg1 rfl) ?_
   refine q1 _ ?_
   by_cases hg2 : decide (a1 < 64) = true
   ·
    replace hv := iteT hg2 hv
    obtain ⟨r3, hr3, hv⟩ := bindE hv
    obtain ⟨q4, hq4, hv⟩ := bindE hv
    refine qG _ hg2 ?_
    refine q1 _ ?_
    refine qG _ hg2 ?_
    refine q1 _ ?_
    refine qG _ hg2 ?_
    refine stepC (r := .int .u64 r3) (ArgsOk.dt ArgsOk.nil') (c_ref02_pow hr3) ?_
    refine qG _ hg2 ?_
    refine step (v := .d (.int .u64 q4)) (st_quo hq4 rfl rfl) ?_
    refine qG _ hg2 ?_
    refine q1 _ ?_
    refine qG _ hg2 ?_
    refine q1 _ ?_
    refine step (v := vb ((q4.tmod 2) == 1)) (st_pickT (b := decide (a1 < 64)) rfl hg2 rfl) ?_
    refine q1 _ ?_
    have hh := Option.some.inj hv
    subst hh
    exact nR []
   ·
    replace hv := iteF hg2 hv
    iterate 6 refine qX _ hg2 ?_
    refine step (v := vb false) (st_pickF (b := decide (a1 < 64)) rfl hg2 rfl) ?_
    refine q1 _ ?_
    have hh := Option.some.inj hv
    subst hh
    exact nR []
  ·
   replace hv := iteF hg1 hv
   iterate 2 refine qX _ hg1 ?_
   refine step (v := vb false) (st_pickF (b := decide (a1 ≥ 0)) rfl hg1 rfl) ?_
   refine q1 _ ?_
   iterate 6 refine qX false (by decide) ?_
   refine step (v := vb false) (st_pickF (b := false) rfl (by decide) rfl) ?_
   refine q1 _ ?_
   have hh := Option.some.inj hv
   subst hh
   exact nR []
 have hh := Option.some.inj h
 subst hh
 refine NWp.ret ?_
 show FQ _ _ _ _
 exact FQ.mk1 (.inr rfl) (res_t (v := vb y5) rfl rfl) (RV.d trivial)

theorem c_ref21_union {a0 : (List Bool)} {a1 : (List Bool)} {r : (List Bool)} (h : ref21_union a0 a1 = some r) : SCall Tryd.prog 19 [.d (eL none D.bool a0), .d (eL none D.bool a1)] (stab []) 0 (.loc 0 0 r.length) (stab [(0, .lst true none (List.map D.bool r))]) 1 := by
 refine SCall.introN (bl := []) (bl' := [(0, .lst true none (List.map D.bool r))]) ok19 (show 2 ≤ 30 by decide) rfl ?_
 refine NWp.norm (s0 := ⟨tab [(0, .d (eL none D.bool a0)), (1, .d (eL none D.bool a1))], stab [], 0⟩) (nr []) ?_
 refine NWp.opsJ ⟨tab [(0, .d (eL none D.bool a0)), (1, .d (eL none D.bool a1))], stab [], 0⟩ ?_ ?_
 ·
  refine q1 _ ?_
  exact nR []
 obtain ⟨l1, hl1, h⟩ := bindE h
 refine NWp.opsJ ⟨tab [(0, .d (eL none D.bool a0)), (1, .d (eL none D.bool a1)), (5, .loc 0 0 l1.length)], stab [(0, .lst true none (List.map D.bool l1))], 1⟩ ?_ ?_
 ·
  refine q1 _ ?_
  refine step (v := vi (a0.length : Int)) (st_len (xs := a0) (e := D.bool) rfl) ?_
  refine step (v := .loc 0 0 l1.length) (σ' := (upd (stab []) 0 (some (.lst true none (List.map D.bool l1))))) (n' := 1) (st_mk (e := D.bool) (z := false) hl1 rfl rfl (gmk_le hl1)) ?_
  refine q1 _ ?_
  exact nR [0]
 refine NWp.seq ?_
 refine NWp.opsJ ⟨tab [(0, .d (eL none D.bool a0)), (1, .d (eL none D.bool a1)), (5, .loc 0 0 l1.length), (6, vi 0)], stab [(0, .lst true none (List.map D.bool l1))], 1⟩ ?_ ?_
 ·
  refine q1 _ ?_
  exact nR [0]
 obtain ⟨z18, hl, h⟩ := bindE h
 refine NWp.block ?_
 refine loop_forO (cntU (a0.length : Int)) (fun (i3 : Int) (qq : (List Bool)) => ⟨tab [(0, .d (eL none D.bool a0)), (1, .d (eL none D.bool a1)), (5, .loc 0 0 qq.length), (6, vi i3)], stab [(0, .lst true none (List.map D.bool qq))], 1⟩) 0 (fun (qq : (List Bool)) => ⟨tab [(5, .loc 0 0 qq.length)], stab [(0, .lst true none (List.map D.bool qq))], 1⟩) Low low_step hl (by unfold Low; omega) ?_ ?_ ?_
 ·
  rintro i3 l2 xr8 hinv6 hgo5 h
  show NWp _ _ _ _ _ ⟨tab [(0, .d (eL none D.bool a0)), (1, .d (eL none D.bool a1)), (5, .loc 0 0 l2.length), (6, vi i3)], stab [(0, .lst true none (List.map D.bool l2))], 1⟩
  have hc7 : decide (i3 < (a0.length : Int)) = true := decide_eq_true hgo5
  refine NWp.seq ?_
  refine NWp.opsJ ⟨tab [(0, .d (eL none D.bool a0)), (1, .d (eL none D.bool a1)), (5, .loc 0 0 l2.length), (6, vi i3), (12, vi (a0.length : Int)), (13, vb (decide (i3 < (a0.length : Int))))], stab [(0, .lst true none (List.map D.bool l2))], 1⟩ ?_ ?_
  ·
   iterate 2 refine q1 _ ?_
   refine step (v := vi (a0.length : Int)) (st_len (xs := a0) (e := D.bool) rfl) ?_
   refine q1 _ ?_
   exact nR [0]
  refine NWp.rng 12 rfl fun hB4 => ?_
  refine NWp.condT (t := decide (i3 < (a0.length : Int))) rfl hc7 ?_
  refine NWp.skip ?_
  refine NWp.seq ?_
  refine NWp.block ?_
  obtain ⟨x9, hx9, h⟩ := bindE h
  obtain ⟨l16, hv, h⟩ := bindE h
  refine NWp.opsE ⟨tab [(0, .d (eL none D.bool a0)), (1, .d (eL none D.bool a1)), (5, .loc 0 0 l16.length), (6, vi i3)], stab [(0, .lst true none (List.map D.bool l16))], 1⟩ ?_ ?_
  ·
   iterate 4 refine q1 _ ?_
   refine step (v := .d (.cptr none (.bool x9) 0)) (st_iaddr (xs := a0) (e := D.bool) hx9 rfl rfl) ?_
   iterate 2 refine q1 _ ?_
   by_cases hg10 : x9 = true
   ·
    replace hv := iteT hg10 hv
    obtain ⟨x11, hx11, hv⟩ := bindE hv
    obtain ⟨l12, hl12, hv⟩ := bindE hv
    iterate 4 refine qX x9 (by rw [hg10]; decide) ?_
    refine step (v := vb true) (st_pickT (b := x9) rfl hg10 rfl) ?_
    refine step (v := .ptr 0 i3.toNat 0) (st_iaddrL (xs := l2) (e := D.bool) hx11 rfl rfl rfl rfl) ?_
    refine step (v := V.undef) (σ' := (upd (stab [(0, .lst true none (List.map D.bool l2))]) 0 (some (.lst true none (List.map D.bool l12))))) (n' := 1) (st_storeL' (e := D.bool) (v' := true) hl12 rfl rfl rfl rfl rfl) ?_
    have hh := Option.some.inj hv
    subst hh
    exact RunOps.nil' (nm [0] ⟨.d _, .d _, .le (id := 0) (gput_len hl12).symm (show 0 < 1 by decide), .d _, trivial⟩ ⟨⟨show 0 < 1 by decide, _, rfl, .lst _ _ _⟩, trivial⟩)
   ·
    replace hv := iteF hg10 hv
    obtain ⟨x13, hx13, hv⟩ := bindE hv
    obtain ⟨x14, hx14, hv⟩ := bindE hv
    obtain ⟨l15, hl15, hv⟩ := bindE hv
    refine qG x9 (Bool.eq_false_iff.2 hg10) ?_
    refine q1 _ ?_
    refine qG x9 (Bool.eq_false_iff.2 hg10) ?_
    refine q1 _ ?_
    refine qG x9 (Bool.eq_false_iff.2 hg10) ?_
    refine step (v := .d (.cptr none (.bool x13) 0)) (st_iaddr (xs := a1) (e := D.bool) hx13 rfl rfl) ?_
    refine qG x9 (Bool.eq_false_iff.2 hg10) ?_
    refine q1 _ ?_
    refine step (v := vb x13) (st_pickF (b := x9) rfl hg10 rfl) ?_
    refine step (v := .ptr 0 i3.toNat 0) (st_iaddrL (xs := l2) (e := D.bool) hx14 rfl rfl rfl rfl) ?_
    refine step (v := V.undef) (σ' := (upd (stab [(0, .lst true none (List.map D.bool l2))]) 0 (some (.lst true none (List.map D.bool l15))))) (n' := 1) (st_storeL' (e := D.bool) (v' := x13) hl15 rfl rfl rfl rfl rfl) ?_
    have hh := Option.some.inj hv
    subst hh
    exact RunOps.nil' (nm [0] ⟨.d _, .d _, .le (id := 0) (gput_len hl15).symm (show 0 < 1 by decide), .d _, trivial⟩ ⟨⟨show 0 < 1 by decide, _, rfl, .lst _ _ _⟩, trivial⟩)
  have hh := Option.some.inj h
  subst hh
  refine NWp.opsE ⟨tab [(0, .d (eL none D.bool a0)), (1, .d (eL none D.bool a1)), (5, .loc 0 0 l16.length), (6, vi (i3 + 1))], stab [(0, .lst true none (List.map D.bool l16))], 1⟩ ?_ ?_
  ·
   refine q1 _ ?_
   refine step (v := vi (i3 + 1)) (st_inc (inc_ok hinv6 hgo5 hB4) rfl rfl) ?_
   refine q1 _ ?_
   exact nR [0]
  exact And.intro rfl rfl
 ·
  rintro i3 l2 hinv6 hgo5
  show NWp _ _ _ _ _ ⟨tab [(0, .d (eL none D.bool a0)), (1, .d (eL none D.bool a1)), (5, .loc 0 0 l2.length), (6, vi i3)], stab [(0, .lst true none (List.map D.bool l2))], 1⟩
  have hc7 : ¬ (decide (i3 < (a0.length : Int)) = true) := fun hq => hgo5 (of_decide_eq_true hq)
  refine NWp.seq ?_
  refine NWp.opsJ ⟨tab [(0, .d (eL none D.bool a0)), (1, .d (eL none D.bool a1)), (5, .loc 0 0 l2.length), (6, vi i3), (13, vb (decide (i3 < (a0.length : Int))))], stab [(0, .lst true none (List.map D.bool l2))], 1⟩ ?_ ?_
  ·
   iterate 2 refine q1 _ ?_
   refine step (v := vi (a0.length : Int)) (st_len (xs := a0) (e := D.bool) rfl) ?_
   refine q1 _ ?_
   exact nR [0]
  refine NWp.condF (t := decide (i3 < (a0.length : Int))) rfl hc7 ?_
  refine NWp.norm (s0 := ⟨tab [(5, .loc 0 0 l2.length)], stab [(0, .lst true none (List.map D.bool l2))], 1⟩) (nr [0]) ?_
  refine NWp.exit ?_
  exact And.intro rfl rfl
 refine NWp.opsJ ⟨tab [(4, .loc 0 0 z18.length)], stab [(0, .lst true none (List.map D.bool z18))], 1⟩ ?_ ?_
 ·
  iterate 2 refine q1 _ ?_
  exact nR [0]
 have hh := Option.some.inj h
 subst hh
 refine NWp.ret ?_
 exact ⟨.inr rfl, _, rfl, rfl, AllS.sub ⟨rfl, trivial⟩, rfl⟩

theorem c_ref21_earlier {a0 : (List api_Path)} {a1 : (List api_Step)} {a2 : Int} {r : (Int × Bool)} (h : ref21_earlier a0 a1 a2 = some r) : PCall Tryd.prog 20 [eL (some 6) eapi_Path a0, eL (some 18) eapi_Step a1, .int .i64 a2] (.tup [.int .i64 r.1, .bool r.2]) := by
 refine PCall.introN ok20 (show 3 ≤ 65 by decide) ?_
 refine NWp.norm (s0 := ⟨tab [(0, vl1 a0), (1, vl0 a1), (2, vi a2)], stab [], 0⟩) (nr []) ?_
 refine NWp.opsJ ⟨tab [(0, vl1 a0), (1, vl0 a1), (2, vi a2)], stab [], 0⟩ ?_ ?_
 ·
  iterate 2 refine q1 _ ?_
  exact nR []
 obtain ⟨x1, hx1, h⟩ := bindE h
 refine NWp.opsJ ⟨tab [(0, vl1 a0), (1, vl0 a1), (2, vi a2), (8, vi x1.Path)], stab [], 0⟩ ?_ ?_
 ·
  iterate 2 refine q1 _ ?_
  refine step (v := vp0 x1) (st_iaddr (xs := a1) (e := eapi_Step) hx1 rfl rfl) ?_
  iterate 3 refine q1 _ ?_
  exact nR []
 refine NWp.seq ?_
 refine NWp.opsJ ⟨tab [(0, vl1 a0), (1, vl0 a1), (2, vi a2), (8, vi x1.Path), (16, vb (decide (x1.Path < 0)))], stab [], 0⟩ ?_ ?_
 ·
  iterate 2 refine q1 _ ?_
  exact nR []
 by_cases hc2 : decide (x1.Path < 0) = true
 ·
  replace h := iteT hc2 h
  refine NWp.condT (t := decide (x1.Path < 0)) rfl hc2 ?_
  refine NWp.opsJ ⟨tab [(6, vi (-1)), (7, vb true)], stab [], 0⟩ ?_ ?_
  ·
   iterate 2 refine q1 _ ?_
   exact nR []
  have hh := Option.some.inj h
  subst hh
  refine NWp.ret ?_
  show FQ _ _ _ _
  exact FQ.mkT (.inr rfl) (res_t (v := vi (-1)) rfl (res_t (v := vb true) rfl rfl)) (RV.d (RV.d trivial))
 ·
  replace h := iteF hc2 h
  refine NWp.condF (t := decide (x1.Path < 0)) rfl hc2 ?_
  refine NWp.skip ?_
  refine NWp.seq ?_
  refine NWp.opsJ ⟨tab [(0, vl1 a0), (1, vl0 a1), (2, vi a2), (8, vi x1.Path), (9, vi (IntKind.i64.wrap (a2 - 1)))], stab [], 0⟩ ?_ ?_
  ·
   iterate 3 refine q1 _ ?_
   exact nR []
  obtain ⟨q15, hl, h⟩ := bindE h
  refine NWp.rng 9 rfl fun hA16 => ?_
  refine NWp.block ?_
  refine loop_forR (cntD (-1)) (fun (i3 : Int) (qq : Unit) => ⟨tab [(0, vl1 a0), (1, vl0 a1), (2, vi a2), (8, vi x1.Path), (9, vi i3)], stab [], 0⟩) 0 (fun (qq : Unit) => ⟨tab [(0, vl1 a0), (2, vi a2), (8, vi x1.Path)], stab [], 0⟩) (fun i => IntKind.i64.wrap i = i) (fun i hi hg => dec_ok hg (by decide) hi) (r := r) hl hA16 ?_ ?_ ?_ ?_
  ·
   rintro i3 ⟨⟩ xr8 hinv6 hgo5 h
   show NWp _ _ _ _ _ ⟨tab [(0, vl1 a0), (1, vl0 a1), (2, vi a2), (8, vi x1.Path), (9, vi i3)], stab [], 0⟩
   have hc7 : decide (i3 ≥ 0) = true := decide_eq_true (by omega)
   refine NWp.seq ?_
   refine NWp.opsJ ⟨tab [(0, vl1 a0), (1, vl0 a1), (2, vi a2), (8, vi x1.Path), (9, vi i3), (20, vb (decide (i3 ≥ 0)))], stab [], 0⟩ ?_ ?_
   ·
    iterate 2 refine q1 _ ?_
    exact nR []
   refine NWp.condT (t := decide (i3 ≥ 0)) rfl hc7 ?_
   refine NWp.skip ?_
   refine NWp.seq ?_
   refine NWp.block ?_
   obtain ⟨x9, hx9, h⟩ := bindE h
   refine NWp.opsJ ⟨tab [(0, vl1 a0), (1, vl0 a1), (2, vi a2), (8, vi x1.Path), (9, vi i3), (37, vb ((x9.What == 2) && (x9.Path == x1.Path)))], stab [], 0⟩ ?_ ?_
   ·
    iterate 2 refine q1 _ ?_
    refine step (v := vp0 x9) (st_iaddr (xs := a1) (e := eapi_Step) hx9 rfl rfl) ?_
    iterate 4 refine q1 _ ?_
    by_cases hg10 : (x9.What == 2) = true
    ·
     refine qG _ hg10 ?_
     refine q1 _ ?_
     refine qG _ hg10 ?_
     refine q1 _ ?_
     refine qG _ hg10 ?_
     refine step (v := vp0 x9) (st_iaddr (xs := a1) (e := eapi_Step) hx9 rfl rfl) ?_
     refine qG _ hg10 ?_
     refine q1 _ ?_
     refine qG _ hg10 ?_
     refine q1 _ ?_
     refine qG _ hg10 ?_
     refine q1 _ ?_
     refine qG _ hg10 ?_
     refine q1 _ ?_
     refine step (v := vb (x9.Path == x1.Path)) (st_pickT (b := (x9.What == 2)) rfl hg10 rfl) ?_
     exact RunOps.nil' (nm [] ⟨.d _, .d _, .d _, .d _, .d _, .eq (by first | (simp [hg10]; done) | (simp_all; done) | grind), trivial⟩ trivial)
    ·
     iterate 7 refine qX _ hg10 ?_
     refine step (v := vb false) (st_pickF (b := (x9.What == 2)) rfl hg10 rfl) ?_
     exact RunOps.nil' (nm [] ⟨.d _, .d _, .d _, .d _, .d _, .eq (by first | (simp [hg10]; done) | (simp_all; done) | grind), trivial⟩ trivial)
   by_cases hc11 : ((x9.What == 2) && (x9.Path == x1.Path)) = true
   ·
    replace h := iteT hc11 h
    refine NWp.condT (t := ((x9.What == 2) && (x9.Path == x1.Path))) rfl hc11 ?_
    refine NWp.opsJ ⟨tab [(6, vi i3), (7, vb true)], stab [], 0⟩ ?_ ?_
    ·
     iterate 3 refine q1 _ ?_
     exact nR []
    obtain ⟨r12, kr12, hr⟩ := mapE (o := some (i3, true)) (g := Br.ret) h
    subst hr
    have h := kr12
    have hh := Option.some.inj h
    subst hh
    refine NWp.ret ?_
    refine And.intro (fun hn => nomatch hn) ?_
    intro hq
    have hq := hq.symm
    subst hq
    show FQ _ _ _ _
    exact FQ.mkT (.inr rfl) (res_t (v := vi i3) rfl (res_t (v := vb true) rfl rfl)) (RV.d (RV.d trivial))
   ·
    replace h := iteF hc11 h
    refine NWp.condF (t := ((x9.What == 2) && (x9.Path == x1.Path))) rfl hc11 ?_
    refine NWp.skip ?_
    have hh := Option.some.inj h
    subst hh
    refine NWp.opsE ⟨tab [(0, vl1 a0), (1, vl0 a1), (2, vi a2), (8, vi x1.Path), (9, vi (i3 - 1))], stab [], 0⟩ ?_ ?_
    ·
     refine q1 _ ?_
     refine step (v := vi (i3 - 1)) (st_dec (dec_ok hgo5 (by decide) hinv6) rfl rfl) ?_
     refine q1 _ ?_
     exact nR []
    exact And.intro rfl rfl
  ·
   rintro i3 ⟨⟩ hinv6 hgo5
   show NWp _ _ _ _ _ ⟨tab [(0, vl1 a0), (1, vl0 a1), (2, vi a2), (8, vi x1.Path), (9, vi i3)], stab [], 0⟩
   have hc7 : ¬ (decide (i3 ≥ 0) = true) := fun hq => hgo5 (by have := of_decide_eq_true hq; omega)
   refine NWp.seq ?_
   refine NWp.opsJ ⟨tab [(0, vl1 a0), (1, vl0 a1), (2, vi a2), (8, vi x1.Path), (9, vi i3), (20, vb (decide (i3 ≥ 0)))], stab [], 0⟩ ?_ ?_
   ·
    iterate 2 refine q1 _ ?_
    exact nR []
   refine NWp.condF (t := decide (i3 ≥ 0)) rfl hc7 ?_
   refine NWp.norm (s0 := ⟨tab [(0, vl1 a0), (2, vi a2), (8, vi x1.Path)], stab [], 0⟩) (nr []) ?_
   refine NWp.exit ?_
   exact And.intro rfl rfl
  ·
   intro r' hq
   subst hq
   exact Option.some.inj h
  rintro ⟨⟩ rfl
  refine NWp.seq ?_
  obtain ⟨x12, hx12, h⟩ := bindE h
  refine NWp.opsJ ⟨tab [(0, vl1 a0), (2, vi a2), (8, vi x1.Path), (44, vb (decide (x12.Of ≥ 0)))], stab [], 0⟩ ?_ ?_
  ·
   iterate 2 refine q1 _ ?_
   refine step (v := .d (.cptr (some 6) (eapi_Path x12) 0)) (st_iaddr (xs := a0) (e := eapi_Path) hx12 rfl rfl) ?_
   iterate 3 refine q1 _ ?_
   exact nR []
  by_cases hc13 : decide (x12.Of ≥ 0) = true
  ·
   replace h := iteT hc13 h
   refine NWp.condT (t := decide (x12.Of ≥ 0)) rfl hc13 ?_
   refine NWp.opsJ ⟨tab [(6, vi x12.At), (7, vb ((decide (x12.At ≥ 0)) && (decide (x12.At < a2))))], stab [], 0⟩ ?_ ?_
   ·
    iterate 2 refine q1 _ ?_
    refine step (v := .d (.cptr (some 6) (eapi_Path x12) 0)) (st_iaddr (xs := a0) (e := eapi_Path) hx12 rfl rfl) ?_
    iterate 4 refine q1 _ ?_
    refine step (v := .d (.cptr (some 6) (eapi_Path x12) 0)) (st_iaddr (xs := a0) (e := eapi_Path) hx12 rfl rfl) ?_
    iterate 4 refine q1 _ ?_
    by_cases hg14 : decide (x12.At ≥ 0) = true
    ·
     refine qG _ hg14 ?_
     refine q1 _ ?_
     refine qG _ hg14 ?_
     refine q1 _ ?_
     refine qG _ hg14 ?_
     refine step (v := .d (.cptr (some 6) (eapi_Path x12) 0)) (st_iaddr (xs := a0) (e := eapi_Path) hx12 rfl rfl) ?_
     refine qG _ hg14 ?_
     refine q1 _ ?_
     refine qG _ hg14 ?_
     refine q1 _ ?_
     refine qG _ hg14 ?_
     refine q1 _ ?_
     refine qG _ hg14 ?_
     refine q1 _ ?_
     refine step (v := vb (decide (x12.At < a2))) (st_pickT (b := decide (x12.At ≥ 0)) rfl hg14 rfl) ?_
     iterate 2 refine q1 _ ?_
     exact RunOps.nil' (nm [] ⟨.d _, .eq (by first | (simp [hg14]; done) | (simp_all; done) | grind), trivial⟩ trivial)
    ·
     iterate 7 refine qX _ hg14 ?_
     refine step (v := vb false) (st_pickF (b := decide (x12.At ≥ 0)) rfl hg14 rfl) ?_
     iterate 2 refine q1 _ ?_
     exact RunOps.nil' (nm [] ⟨.d _, .eq (by first | (simp [hg14]; done) | (simp_all; done) | grind), trivial⟩ trivial)
   have hh := Option.some.inj h
   subst hh
   refine NWp.ret ?_
   show FQ _ _ _ _
   exact FQ.mkT (.inr rfl) (res_t (v := vi x12.At) rfl (res_t (v := vb ((decide (x12.At ≥ 0)) && (decide (x12.At < a2)))) rfl rfl)) (RV.d (RV.d trivial))
  ·
   replace h := iteF hc13 h
   refine NWp.condF (t := decide (x12.Of ≥ 0)) rfl hc13 ?_
   refine NWp.skip ?_
   refine NWp.opsJ ⟨tab [(6, vi (-1)), (7, vb true)], stab [], 0⟩ ?_ ?_
   ·
    iterate 2 refine q1 _ ?_
    exact nR []
   have hh := Option.some.inj h
   subst hh
   refine NWp.ret ?_
   show FQ _ _ _ _
   exact FQ.mkT (.inr rfl) (res_t (v := vi (-1)) rfl (res_t (v := vb true) rfl rfl)) (RV.d (RV.d trivial))

theorem c_ref21_Ahead {a0 : (List api_Path)} {a1 : (List api_Step)} {a2 : Int} {r : ((List (List Bool)) × Bool)} (h : ref21_Ahead a0 a1 a2 = some r) : PCall Tryd.prog 14 [eL (some 6) eapi_Path a0, eL (some 18) eapi_Step a1, .int .i64 a2] (.tup [eL none (eL none D.bool) r.1, .bool r.2]) := by
 refine PCall.introN ok14 (show 3 ≤ 149 by decide) ?_
 refine NWp.norm (s0 := ⟨tab [(0, vl1 a0), (1, vl0 a1), (2, vi a2)], stab [], 0⟩) (nr []) ?_
 refine NWp.opsJ ⟨tab [(0, vl1 a0), (1, vl0 a1), (2, vi a2)], stab [], 0⟩ ?_ ?_
 ·
  iterate 2 refine q1 _ ?_
  exact nR []
 obtain ⟨l1, hl1, h⟩ := bindE h
 refine NWp.opsJ ⟨tab [(0, vl1 a0), (1, vl0 a1), (2, vi a2), (8, .loc 0 0 l1.length)], stab [(0, .lst false none (List.map D.bool l1))], 1⟩ ?_ ?_
 ·
  refine q1 _ ?_
  refine step (v := vi (a1.length : Int)) (st_len (xs := a1) (e := eapi_Step) rfl) ?_
  refine step (v := .loc 0 0 l1.length) (σ' := (upd (stab []) 0 (some (.lst false none (List.map D.bool l1))))) (n' := 1) (st_mkF (e := D.bool) (z := false) hl1 rfl rfl (gmk_le hl1)) ?_
  refine q1 _ ?_
  exact nR [0]
 refine NWp.opsJ ⟨tab [(0, vl1 a0), (1, vl0 a1), (2, vi a2), (8, .loc 0 0 l1.length), (9, .d (.nils))], stab [(0, .lst false none (List.map D.bool l1))], 1⟩ ?_ ?_
 ·
  refine q1 _ ?_
  exact nR [0]
 refine NWp.seq ?_
 refine NWp.opsJ ⟨tab [(0, vl1 a0), (1, vl0 a1), (2, vi a2), (8, .loc 0 0 l1.length), (9, .d (.nils)), (10, vi 0)], stab [(0, .lst false none (List.map D.bool l1))], 1⟩ ?_ ?_
 ·
  refine q1 _ ?_
  exact nR [0]
 obtain ⟨q58, hl, h⟩ := bindE h
 obtain ⟨z8, z9⟩ := q58
 refine NWp.norm (s0 := ⟨tab [(0, vl1 a0), (1, vl0 a1), (2, vi a2), (8, .loc 0 0 l1.length), (9, .loc 1 0 (([] : List (List Bool)).length)), (10, vi 0)], stab [(0, .lst false none (List.map D.bool l1)), (1, .lst true none (List.map (eL none D.bool) ([] : List (List Bool))))], 2⟩) (Norm.trans (s2 := ⟨tab [(0, vl1 a0), (1, vl0 a1), (2, vi a2), (8, .loc 0 0 l1.length), (9, .loc 1 0 (([] : List (List Bool)).length)), (10, vi 0)], stab [(0, .lst false none (List.map D.bool l1)), (1, .lst true none (List.map (eL none D.bool) ([] : List (List Bool))))], 2⟩) (Norm.nil1 9 true none rfl) (nr [0, 1])) ?_
 refine NWp.block ?_
 refine loop_whK (fun (qq : ((List (List Bool)) × Int)) => ⟨tab [(0, vl1 a0), (1, vl0 a1), (2, vi a2), (8, .loc 0 0 l1.length), (9, .loc 1 0 qq.1.length), (10, vi qq.2)], stab [(0, .lst false none (List.map D.bool l1)), (1, .lst true none (List.map (eL none D.bool) qq.1))], 2⟩) 0 (fun (qq : ((List (List Bool)) × Int)) => ⟨tab [(0, vl1 a0), (1, vl0 a1), (8, .loc 0 0 l1.length), (9, .loc 1 0 qq.1.length)], stab [(0, .lst false none (List.map D.bool l1)), (1, .lst true none (List.map (eL none D.bool) qq.1))], 2⟩) hl ?_ ?_
 ·
  rintro ⟨l2, i3⟩ xr4 h
  show NWp _ _ _ _ _ ⟨tab [(0, vl1 a0), (1, vl0 a1), (2, vi a2), (8, .loc 0 0 l1.length), (9, .loc 1 0 l2.length), (10, vi i3)], stab [(0, .lst false none (List.map D.bool l1)), (1, .lst true none (List.map (eL none D.bool) l2))], 2⟩
  refine NWp.seq ?_
  refine NWp.opsJ ⟨tab [(0, vl1 a0), (1, vl0 a1), (2, vi a2), (8, .loc 0 0 l1.length), (9, .loc 1 0 l2.length), (10, vi i3), (28, vb ((decide (i3 < a2)) && (decide (i3 < 100))))], stab [(0, .lst false none (List.map D.bool l1)), (1, .lst true none (List.map (eL none D.bool) l2))], 2⟩ ?_ ?_
  ·
   iterate 4 refine q1 _ ?_
   by_cases hg5 : decide (i3 < a2) = true
   ·
    refine qG _ hg5 ?_
    refine q1 _ ?_
    refine qG _ hg5 ?_
    refine q1 _ ?_
    refine step (v := vb (decide (i3 < 100))) (st_pickT (b := decide (i3 < a2)) rfl hg5 rfl) ?_
    exact RunOps.nil' (nm [0, 1] ⟨.d _, .d _, .d _, .lc 0, .lc 1, .d _, .eq (by first | (simp [hg5]; done) | (simp_all; done) | grind), trivial⟩ ⟨⟨show 0 < 2 by decide, _, rfl, .lst _ _ _⟩, ⟨show 1 < 2 by decide, _, rfl, .lst _ _ _⟩, trivial⟩)
   ·
    iterate 2 refine qX _ hg5 ?_
    refine step (v := vb false) (st_pickF (b := decide (i3 < a2)) rfl hg5 rfl) ?_
    exact RunOps.nil' (nm [0, 1] ⟨.d _, .d _, .d _, .lc 0, .lc 1, .d _, .eq (by first | (simp [hg5]; done) | (simp_all; done) | grind), trivial⟩ ⟨⟨show 0 < 2 by decide, _, rfl, .lst _ _ _⟩, ⟨show 1 < 2 by decide, _, rfl, .lst _ _ _⟩, trivial⟩)
  by_cases hc6 : ((decide (i3 < a2)) && (decide (i3 < 100))) = true
  ·
   replace h := iteT hc6 h
   refine NWp.condT (t := ((decide (i3 < a2)) && (decide (i3 < 100)))) rfl hc6 ?_
   refine NWp.skip ?_
   refine NWp.seq ?_
   refine NWp.block ?_
   obtain ⟨l7, hl7, h⟩ := bindE h
   refine NWp.opsE ⟨tab [(0, vl1 a0), (1, vl0 a1), (2, vi a2), (8, .loc 0 0 l1.length), (9, .loc 1 0 l7.length), (10, vi i3)], stab [(0, .lst false none (List.map D.bool l1)), (1, .lst true none (List.map (eL none D.bool) l7))], 2⟩ ?_ ?_
   ·
    iterate 2 refine q1 _ ?_
    refine step (v := .loc 2 0 (([l1] : List (List Bool)).length)) (σ' := (upd (stab [(0, .lst false none (List.map D.bool l1)), (1, .lst true none (List.map (eL none D.bool) l2))]) 2 (some (.lst false none (List.map (eL none D.bool) ([l1] : List (List Bool))))))) (n' := 3) (st_bsliceV (ds := List.map (eL none D.bool) ([l1] : List (List Bool))) (optC (f := fun x => viewA _ (evT _ x)) (va_l (xs := l1) (e := D.bool) rfl rfl) optN) rfl) ?_
    refine step (v := .loc 3 0 l7.length) (σ' := (upd (upd (upd (stab [(0, .lst false none (List.map D.bool l1)), (1, .lst true none (List.map (eL none D.bool) l2))]) 2 (some (.lst false none (List.map (eL none D.bool) ([l1] : List (List Bool)))))) 1 none) 3 (some (.lst true none (List.map (eL none D.bool) l7))))) (n' := 4) (st_app (xs := l2) (ys := ([l1] : List (List Bool))) (e := (eL none D.bool)) hl7 rfl rfl rfl (src_l (xs := ([l1] : List (List Bool))) (e := (eL none D.bool)) rfl rfl rfl)) ?_
    refine q1 _ ?_
    exact nR [0, 3]
   have hh := Option.some.inj h
   subst hh
   refine NWp.opsE ⟨tab [(0, vl1 a0), (1, vl0 a1), (2, vi a2), (8, .loc 0 0 l1.length), (9, .loc 1 0 l7.length), (10, vi (IntKind.i64.wrap (i3 + 1)))], stab [(0, .lst false none (List.map D.bool l1)), (1, .lst true none (List.map (eL none D.bool) l7))], 2⟩ ?_ ?_
   ·
    iterate 3 refine q1 _ ?_
    exact nR [0, 1]
   exact And.intro rfl rfl
  ·
   replace h := iteF hc6 h
   refine NWp.condF (t := ((decide (i3 < a2)) && (decide (i3 < 100)))) rfl hc6 ?_
   have hh := Option.some.inj h
   subst hh
   refine NWp.norm (s0 := ⟨tab [(0, vl1 a0), (1, vl0 a1), (8, .loc 0 0 l1.length), (9, .loc 1 0 l2.length)], stab [(0, .lst false none (List.map D.bool l1)), (1, .lst true none (List.map (eL none D.bool) l2))], 2⟩) (nr [0, 1]) ?_
   refine NWp.exit ?_
   exact And.intro rfl rfl
 refine NWp.opsJ ⟨tab [(0, vl1 a0), (1, vl0 a1), (8, .loc 0 0 l1.length), (9, .loc 1 0 z8.length), (11, .loc 0 0 l1.length)], stab [(0, .lst false none (List.map D.bool l1)), (1, .lst true none (List.map (eL none D.bool) z8))], 2⟩ ?_ ?_
 ·
  iterate 2 refine q1 _ ?_
  exact nR [0, 1]
 refine NWp.opsJ ⟨tab [(0, vl1 a0), (1, vl0 a1), (8, .loc 0 0 l1.length), (9, .loc 1 0 z8.length), (11, .loc 0 0 l1.length), (12, .d (.nils))], stab [(0, .lst false none (List.map D.bool l1)), (1, .lst true none (List.map (eL none D.bool) z8))], 2⟩ ?_ ?_
 ·
  refine q1 _ ?_
  exact nR [0, 1]
 refine NWp.seq ?_
 refine NWp.opsJ ⟨tab [(0, vl1 a0), (1, vl0 a1), (8, .loc 0 0 l1.length), (9, .loc 1 0 z8.length), (11, .loc 0 0 l1.length), (12, .d (.nils)), (13, vi 0)], stab [(0, .lst false none (List.map D.bool l1)), (1, .lst true none (List.map (eL none D.bool) z8))], 2⟩ ?_ ?_
 ·
  refine q1 _ ?_
  exact nR [0, 1]
 obtain ⟨q57, hl, h⟩ := bindE h
 refine NWp.norm (s0 := ⟨tab [(0, vl1 a0), (1, vl0 a1), (8, .d (eL none D.bool l1)), (9, .loc 0 0 z8.length), (11, .d (eL none D.bool l1)), (12, .loc 1 0 (([] : List (List Bool)).length)), (13, vi 0)], stab [(0, .lst true none (List.map (eL none D.bool) z8)), (1, .lst true none (List.map (eL none D.bool) ([] : List (List Bool))))], 2⟩) (Norm.trans (s2 := ⟨tab [(0, vl1 a0), (1, vl0 a1), (8, .d (eL none D.bool l1)), (9, .loc 0 0 z8.length), (11, .d (eL none D.bool l1)), (12, .loc 1 0 (([] : List (List Bool)).length)), (13, vi 0)], stab [(0, .lst true none (List.map (eL none D.bool) z8)), (1, .lst true none (List.map (eL none D.bool) ([] : List (List Bool))))], 2⟩) (Norm.imm1 [8, 11] (id := 0) (m := false) (k := none) (xs := l1) (e := D.bool) rfl (fun t ht => by simp at ht; rcases ht with rfl | rfl <;> exact ⟨_, rfl, rfl⟩)) (Norm.trans (s2 := ⟨tab [(0, vl1 a0), (1, vl0 a1), (8, .d (eL none D.bool l1)), (9, .loc 0 0 z8.length), (11, .d (eL none D.bool l1)), (12, .loc 1 0 (([] : List (List Bool)).length)), (13, vi 0)], stab [(0, .lst true none (List.map (eL none D.bool) z8)), (1, .lst true none (List.map (eL none D.bool) ([] : List (List Bool))))], 2⟩) (Norm.nil1 12 true none rfl) (nr [1, 2]))) ?_
 refine NWp.block ?_
 refine loop_forR (cntU (a1.length : Int)) (fun (i13 : Int) (qq : ((List (List Bool)) × (List Bool) × (List (List Bool)))) => ⟨tab [(0, vl1 a0), (1, vl0 a1), (8, .d (eL none D.bool l1)), (9, .loc 0 0 qq.1.length), (11, .d (eL none D.bool qq.2.1)), (12, .loc 1 0 qq.2.2.length), (13, vi i13)], stab [(0, .lst true none (List.map (eL none D.bool) qq.1)), (1, .lst true none (List.map (eL none D.bool) qq.2.2))], 2⟩) 2 (fun (qq : ((List (List Bool)) × (List Bool) × (List (List Bool)))) => ⟨tab [(12, .loc 0 0 qq.2.2.length)], stab [(0, .lst true none (List.map (eL none D.bool) qq.2.2))], 1⟩) Low low_step (r := r) hl (by unfold Low; omega) ?_ ?_ ?_ ?_
 ·
  rintro i13 ⟨l10, y11, l12⟩ xr18 hinv16 hgo15 h
  show NWp _ _ _ _ _ ⟨tab [(0, vl1 a0), (1, vl0 a1), (8, .d (eL none D.bool l1)), (9, .loc 0 0 l10.length), (11, .d (eL none D.bool y11)), (12, .loc 1 0 l12.length), (13, vi i13)], stab [(0, .lst true none (List.map (eL none D.bool) l10)), (1, .lst true none (List.map (eL none D.bool) l12))], 2⟩
  have hc17 : decide (i13 < (a1.length : Int)) = true := decide_eq_true hgo15
  refine NWp.seq ?_
  refine NWp.opsJ ⟨tab [(0, vl1 a0), (1, vl0 a1), (8, .d (eL none D.bool l1)), (9, .loc 0 0 l10.length), (11, .d (eL none D.bool y11)), (12, .loc 1 0 l12.length), (13, vi i13), (38, vi (a1.length : Int)), (39, vb (decide (i13 < (a1.length : Int))))], stab [(0, .lst true none (List.map (eL none D.bool) l10)), (1, .lst true none (List.map (eL none D.bool) l12))], 2⟩ ?_ ?_
  ·
   iterate 2 refine q1 _ ?_
   refine step (v := vi (a1.length : Int)) (st_len (xs := a1) (e := eapi_Step) rfl) ?_
   refine q1 _ ?_
   exact nR [0, 1]
  refine NWp.rng 38 rfl fun hB14 => ?_
  refine NWp.condT (t := decide (i13 < (a1.length : Int))) rfl hc17 ?_
  refine NWp.skip ?_
  obtain ⟨q53, hv, h⟩ := bindE h
  refine NWp.seqS (fun (qq : ((List (List Bool)) × (List Bool) × (List (List Bool)))) => ⟨tab [(0, vl1 a0), (1, vl0 a1), (8, .d (eL none D.bool l1)), (9, .loc 0 0 qq.1.length), (11, .d (eL none D.bool qq.2.1)), (12, .loc 1 0 qq.2.2.length), (13, vi i13)], stab [(0, .lst true none (List.map (eL none D.bool) qq.1)), (1, .lst true none (List.map (eL none D.bool) qq.2.2))], 2⟩) (xv := q53) (r := xr18) ?_ ?_ ?_
  ·
   replace h := hv
   refine NWp.block ?_
   obtain ⟨x19, hx19, h⟩ := bindE h
   refine NWp.opsJ ⟨tab [(0, vl1 a0), (1, vl0 a1), (8, .d (eL none D.bool l1)), (9, .loc 0 0 l10.length), (11, .d (eL none D.bool y11)), (12, .loc 1 0 l12.length), (13, vi i13), (14, .ptr 2 0 0)], stab [(0, .lst true none (List.map (eL none D.bool) l10)), (1, .lst true none (List.map (eL none D.bool) l12)), (2, .var [vi x19.What, vi x19.Switch, vh x19.Hop.In.a0, vh x19.Hop.In.a1, vh x19.Hop.In.a2, vh x19.Hop.In.a3, vh x19.Hop.In.a4, vh x19.Hop.In.a5, vh x19.Hop.In.a6, vh x19.Hop.In.a7, vb x19.Hop.Fresh, vh x19.Hop.Tag, .d (.int .u64 x19.Hop.Was), .d (.int .u64 x19.Hop.Now), .d (.int .u64 x19.Hop.New), .d (eL (some 8) (eA8 (D.int .u16)) x19.Hop.Out), vi x19.Hop.Err, vi x19.Path])], 3⟩ ?_ ?_
   ·
    iterate 2 refine q1 _ ?_
    refine step (v := vp0 x19) (st_iaddr (xs := a1) (e := eapi_Step) hx19 rfl rfl) ?_
    refine q1 _ ?_
    refine step (v := .ptr 2 0 0) (σ' := (upd (stab [(0, .lst true none (List.map (eL none D.bool) l10)), (1, .lst true none (List.map (eL none D.bool) l12))]) 2 (some (.var [vi 0, vi 0, vh 0, vh 0, vh 0, vh 0, vh 0, vh 0, vh 0, vh 0, vb false, vh 0, .d (.int .u64 0), .d (.int .u64 0), .d (.int .u64 0), .d (eL (some 8) (eA8 (D.int .u16)) []), vi 0, vi 0])))) (n' := 3) rfl ?_
    refine step (v := V.undef) (σ' := (upd (upd (stab [(0, .lst true none (List.map (eL none D.bool) l10)), (1, .lst true none (List.map (eL none D.bool) l12))]) 2 (some (.var [vi 0, vi 0, vh 0, vh 0, vh 0, vh 0, vh 0, vh 0, vh 0, vh 0, vb false, vh 0, .d (.int .u64 0), .d (.int .u64 0), .d (.int .u64 0), .d (eL (some 8) (eA8 (D.int .u16)) []), vi 0, vi 0]))) 2 (some (.var [vi x19.What, vi x19.Switch, vh x19.Hop.In.a0, vh x19.Hop.In.a1, vh x19.Hop.In.a2, vh x19.Hop.In.a3, vh x19.Hop.In.a4, vh x19.Hop.In.a5, vh x19.Hop.In.a6, vh x19.Hop.In.a7, vb x19.Hop.Fresh, vh x19.Hop.Tag, .d (.int .u64 x19.Hop.Was), .d (.int .u64 x19.Hop.Now), .d (.int .u64 x19.Hop.New), .d (eL (some 8) (eA8 (D.int .u16)) x19.Hop.Out), vi x19.Hop.Err, vi x19.Path])))) (n' := 3) rfl ?_
    exact nR [0, 1, 2]
   refine NWp.seq ?_
   refine NWp.opsJ ⟨tab [(0, vl1 a0), (1, vl0 a1), (8, .d (eL none D.bool l1)), (9, .loc 0 0 l10.length), (11, .d (eL none D.bool y11)), (12, .loc 1 0 l12.length), (13, vi i13), (14, .ptr 2 0 0), (67, vb ((decide (x19.Switch < 0)) || ((decide (x19.Switch ≥ (l10.length : Int))) || ((decide (x19.Path < (-1))) || (decide (x19.Path ≥ (a0.length : Int)))))))], stab [(0, .lst true none (List.map (eL none D.bool) l10)), (1, .lst true none (List.map (eL none D.bool) l12)), (2, .var [vi x19.What, vi x19.Switch, vh x19.Hop.In.a0, vh x19.Hop.In.a1, vh x19.Hop.In.a2, vh x19.Hop.In.a3, vh x19.Hop.In.a4, vh x19.Hop.In.a5, vh x19.Hop.In.a6, vh x19.Hop.In.a7, vb x19.Hop.Fresh, vh x19.Hop.Tag, .d (.int .u64 x19.Hop.Was), .d (.int .u64 x19.Hop.Now), .d (.int .u64 x19.Hop.New), .d (eL (some 8) (eA8 (D.int .u16)) x19.Hop.Out), vi x19.Hop.Err, vi x19.Path])], 3⟩ ?_ ?_
   ·
    iterate 4 refine q1 _ ?_
    by_cases hg20 : decide (x19.Switch < 0) = true
    ·
     iterate 5 refine qX (decide (x19.Switch < 0)) (by rw [hg20]; decide) ?_
     refine step (v := vb true) (st_pickT (b := decide (x19.Switch < 0)) rfl hg20 rfl) ?_
     refine q1 _ ?_
     iterate 3 refine qX true (by decide) ?_
     refine step (v := vb true) (st_pickT (b := true) rfl rfl rfl) ?_
     refine q1 _ ?_
     iterate 5 refine qX true (by decide) ?_
     refine step (v := vb true) (st_pickT (b := true) rfl rfl rfl) ?_
     exact RunOps.nil' (nm [0, 1, 2] ⟨.d _, .d _, .d _, .lc 0, .d _, .lc 1, .d _, .pt 2, .eq (by first | (simp [hg20]; done) | (simp_all; done) | grind), trivial⟩ ⟨⟨show 0 < 3 by decide, _, rfl, .lst _ _ _⟩, ⟨show 1 < 3 by decide, _, rfl, .lst _ _ _⟩, ⟨show 2 < 3 by decide, _, rfl, .vars ⟨.d _, .d _, .d _, .d _, .d _, .d _, .d _, .d _, .d _, .d _, .d _, .d _, .d _, .d _, .d _, .d _, .d _, .d _, trivial⟩⟩, trivial⟩)
    ·
     refine qG (decide (x19.Switch < 0)) (Bool.eq_false_iff.2 hg20) ?_
     refine q1 _ ?_
     refine qG (decide (x19.Switch < 0)) (Bool.eq_false_iff.2 hg20) ?_
     refine q1 _ ?_
     refine qG (decide (x19.Switch < 0)) (Bool.eq_false_iff.2 hg20) ?_
     refine q1 _ ?_
     refine qG (decide (x19.Switch < 0)) (Bool.eq_false_iff.2 hg20) ?_
     refine q1 _ ?_
     refine qG (decide (x19.Switch < 0)) (Bool.eq_false_iff.2 hg20) ?_
     refine q1 _ ?_
     refine step (v := vb (decide (x19.Switch ≥ (l10.length : Int)))) (st_pickF (b := decide (x19.Switch < 0)) rfl hg20 rfl) ?_
     refine q1 _ ?_
     by_cases hg21 : decide (x19.Switch ≥ (l10.length : Int)) = true
     ·
      iterate 3 refine qX (decide (x19.Switch ≥ (l10.length : Int))) (by rw [hg21]; decide) ?_
      refine step (v := vb true) (st_pickT (b := decide (x19.Switch ≥ (l10.length : Int))) rfl hg21 rfl) ?_
      refine q1 _ ?_
      iterate 5 refine qX true (by decide) ?_
      refine step (v := vb true) (st_pickT (b := true) rfl rfl rfl) ?_
      exact RunOps.nil' (nm [0, 1, 2] ⟨.d _, .d _, .d _, .lc 0, .d _, .lc 1, .d _, .pt 2, .eq (by first | (simp [hg20, hg21]; done) | (simp_all; done) | grind), trivial⟩ ⟨⟨show 0 < 3 by decide, _, rfl, .lst _ _ _⟩, ⟨show 1 < 3 by decide, _, rfl, .lst _ _ _⟩, ⟨show 2 < 3 by decide, _, rfl, .vars ⟨.d _, .d _, .d _, .d _, .d _, .d _, .d _, .d _, .d _, .d _, .d _, .d _, .d _, .d _, .d _, .d _, .d _, .d _, trivial⟩⟩, trivial⟩)
     ·
      refine qG (decide (x19.Switch ≥ (l10.length : Int))) (Bool.eq_false_iff.2 hg21) ?_
      refine q1 _ ?_
      refine qG (decide (x19.Switch ≥ (l10.length : Int))) (Bool.eq_false_iff.2 hg21) ?_
      refine q1 _ ?_
      refine qG (decide (x19.Switch ≥ (l10.length : Int))) (Bool.eq_false_iff.2 hg21) ?_
      refine q1 _ ?_
      refine step (v := vb (decide (x19.Path < (-1)))) (st_pickF (b := decide (x19.Switch ≥ (l10.length : Int))) rfl hg21 rfl) ?_
      refine q1 _ ?_
      by_cases hg22 : decide (x19.Path < (-1)) = true
      ·
       iterate 5 refine qX (decide (x19.Path < (-1))) (by rw [hg22]; decide) ?_
       refine step (v := vb true) (st_pickT (b := decide (x19.Path < (-1))) rfl hg22 rfl) ?_
       exact RunOps.nil' (nm [0, 1, 2] ⟨.d _, .d _, .d _, .lc 0, .d _, .lc 1, .d _, .pt 2, .eq (by first | (simp [hg20, hg21, hg22]; done) | (simp_all; done) | grind), trivial⟩ ⟨⟨show 0 < 3 by decide, _, rfl, .lst _ _ _⟩, ⟨show 1 < 3 by decide, _, rfl, .lst _ _ _⟩, ⟨show 2 < 3 by decide, _, rfl, .vars ⟨.d _, .d _, .d _, .d _, .d _, .d _, .d _, .d _, .d _, .d _, .d _, .d _, .d _, .d _, .d _, .d _, .d _, .d _, trivial⟩⟩, trivial⟩)
      ·
       refine qG (decide (x19.Path < (-1))) (Bool.eq_false_iff.2 hg22) ?_
       refine q1 _ ?_
       refine qG (decide (x19.Path < (-1))) (Bool.eq_false_iff.2 hg22) ?_
       refine q1 _ ?_
       refine qG (decide (x19.Path < (-1))) (Bool.eq_false_iff.2 hg22) ?_
       refine q1 _ ?_
       refine qG (decide (x19.Path < (-1))) (Bool.eq_false_iff.2 hg22) ?_
       refine step (v := vi (a0.length : Int)) (st_len (xs := a0) (e := eapi_Path) rfl) ?_
       refine qG (decide (x19.Path < (-1))) (Bool.eq_false_iff.2 hg22) ?_
       refine q1 _ ?_
       refine step (v := vb (decide (x19.Path ≥ (a0.length : Int)))) (st_pickF (b := decide (x19.Path < (-1))) rfl hg22 rfl) ?_
       exact RunOps.nil' (nm [0, 1, 2] ⟨.d _, .d _, .d _, .lc 0, .d _, .lc 1, .d _, .pt 2, .eq (by first | (simp [hg20, hg21, hg22]; done) | (simp_all; done) | grind), trivial⟩ ⟨⟨show 0 < 3 by decide, _, rfl, .lst _ _ _⟩, ⟨show 1 < 3 by decide, _, rfl, .lst _ _ _⟩, ⟨show 2 < 3 by decide, _, rfl, .vars ⟨.d _, .d _, .d _, .d _, .d _, .d _, .d _, .d _, .d _, .d _, .d _, .d _, .d _, .d _, .d _, .d _, .d _, .d _, trivial⟩⟩, trivial⟩)
   by_cases hc23 : ((decide (x19.Switch < 0)) || ((decide (x19.Switch ≥ (l10.length : Int))) || ((decide (x19.Path < (-1))) || (decide (x19.Path ≥ (a0.length : Int)))))) = true
   ·
    replace h := iteT hc23 h
    refine NWp.condT (t := ((decide (x19.Switch < 0)) || ((decide (x19.Switch ≥ (l10.length : Int))) || ((decide (x19.Path < (-1))) || (decide (x19.Path ≥ (a0.length : Int))))))) rfl hc23 ?_
    refine NWp.opsJ ⟨tab [(6, vl3 ([] : List (List Bool))), (7, vb false)], stab [], 0⟩ ?_ ?_
    ·
     iterate 2 refine q1 _ ?_
     exact nR []
    obtain ⟨r24, kr24, hr⟩ := mapE (o := some (Br.ret (([] : List (List Bool)), false))) (g := Sum.inr) h
    subst hr
    have h := kr24
    obtain ⟨r25, kr25, hr⟩ := mapE (o := some (([] : List (List Bool)), false)) (g := Br.ret) h
    subst hr
    have h := kr25
    have hh := Option.some.inj h
    subst hh
    refine NWp.ret ?_
    refine And.intro (fun hn => nomatch hn) ?_
    intro hq
    have hq := hq.symm
    subst hq
    refine And.intro (fun hn => nomatch hn) ?_
    intro hq
    have hq := hq.symm
    subst hq
    show FQ _ _ _ _
    exact FQ.mkT (.inr rfl) (res_t (v := vl3 ([] : List (List Bool))) rfl (res_t (v := vb false) rfl rfl)) (RV.d (RV.d trivial))
   ·
    replace h := iteF hc23 h
    refine NWp.condF (t := ((decide (x19.Switch < 0)) || ((decide (x19.Switch ≥ (l10.length : Int))) || ((decide (x19.Path < (-1))) || (decide (x19.Path ≥ (a0.length : Int))))))) rfl hc23 ?_
    refine NWp.skip ?_
    refine NWp.opsJ ⟨tab [(0, vl1 a0), (1, vl0 a1), (8, .d (eL none D.bool l1)), (9, .loc 0 0 l10.length), (11, .d (eL none D.bool y11)), (12, .loc 1 0 l12.length), (13, vi i13), (14, .ptr 2 0 0), (69, vi x19.What)], stab [(0, .lst true none (List.map (eL none D.bool) l10)), (1, .lst true none (List.map (eL none D.bool) l12)), (2, .var [vi x19.What, vi x19.Switch, vh x19.Hop.In.a0, vh x19.Hop.In.a1, vh x19.Hop.In.a2, vh x19.Hop.In.a3, vh x19.Hop.In.a4, vh x19.Hop.In.a5, vh x19.Hop.In.a6, vh x19.Hop.In.a7, vb x19.Hop.Fresh, vh x19.Hop.Tag, .d (.int .u64 x19.Hop.Was), .d (.int .u64 x19.Hop.Now), .d (.int .u64 x19.Hop.New), .d (eL (some 8) (eA8 (D.int .u16)) x19.Hop.Out), vi x19.Hop.Err, vi x19.Path])], 3⟩ ?_ ?_
    ·
     iterate 2 refine q1 _ ?_
     exact nR [0, 1, 2]
    refine NWp.block ?_
    refine NWp.opsJ ⟨tab [(0, vl1 a0), (1, vl0 a1), (8, .d (eL none D.bool l1)), (9, .loc 0 0 l10.length), (11, .d (eL none D.bool y11)), (12, .loc 1 0 l12.length), (13, vi i13), (14, .ptr 2 0 0), (69, vi x19.What), (70, vb (x19.What == 5))], stab [(0, .lst true none (List.map (eL none D.bool) l10)), (1, .lst true none (List.map (eL none D.bool) l12)), (2, .var [vi x19.What, vi x19.Switch, vh x19.Hop.In.a0, vh x19.Hop.In.a1, vh x19.Hop.In.a2, vh x19.Hop.In.a3, vh x19.Hop.In.a4, vh x19.Hop.In.a5, vh x19.Hop.In.a6, vh x19.Hop.In.a7, vb x19.Hop.Fresh, vh x19.Hop.Tag, .d (.int .u64 x19.Hop.Was), .d (.int .u64 x19.Hop.Now), .d (.int .u64 x19.Hop.New), .d (eL (some 8) (eA8 (D.int .u16)) x19.Hop.Out), vi x19.Hop.Err, vi x19.Path])], 3⟩ ?_ ?_
    ·
     iterate 2 refine q1 _ ?_
     exact nR [0, 1, 2]
    by_cases hc24 : (x19.What == 5) = true
    ·
     replace h := iteT hc24 h
     refine NWp.condT (t := (x19.What == 5)) rfl hc24 ?_
     obtain ⟨x25, hx25, h⟩ := bindE h
     obtain ⟨r26, hr26, h⟩ := bindE h
     refine NWp.opsJ ⟨tab [(0, vl1 a0), (1, vl0 a1), (8, .d (eL none D.bool l1)), (9, .loc 0 0 l10.length), (11, .d (eL none D.bool r26)), (12, .loc 1 0 l12.length), (13, vi i13)], stab [(0, .lst true none (List.map (eL none D.bool) l10)), (1, .lst true none (List.map (eL none D.bool) l12))], 2⟩ ?_ ?_
     ·
      iterate 4 refine q1 _ ?_
      refine step (v := .ptr 0 x19.Switch.toNat 0) (st_iaddrL (xs := l10) (e := (eL none D.bool)) hx25 rfl rfl rfl rfl) ?_
      refine step (v := .d (eL none D.bool x25)) (st_loadL (xs := l10) (e := (eL none D.bool)) hx25 rfl rfl rfl) ?_
      refine stepW (v := .d (eL none D.bool r26)) (σ' := _) (n' := _) (PCall.plain (SCall.dataL (ds := [eL none D.bool y11, eL none D.bool x25]) (c_ref21_union hr26) (by simp)) (ArgsOk.dt (ArgsOk.dt ArgsOk.nil'))) (Nat.le_refl _) ?_
      refine q1 _ ?_
      exact nR [0, 1]
     obtain ⟨l27, hl27, h⟩ := bindE h
     have hh := Option.some.inj h
     subst hh
     refine NWp.opsE ⟨tab [(0, vl1 a0), (1, vl0 a1), (8, .d (eL none D.bool l1)), (9, .loc 0 0 l10.length), (11, .d (eL none D.bool r26)), (12, .loc 1 0 l27.length), (13, vi i13)], stab [(0, .lst true none (List.map (eL none D.bool) l10)), (1, .lst true none (List.map (eL none D.bool) l27))], 2⟩ ?_ ?_
     ·
      iterate 2 refine q1 _ ?_
      refine step (v := .loc 2 0 (([l1] : List (List Bool)).length)) (σ' := (upd (stab [(0, .lst true none (List.map (eL none D.bool) l10)), (1, .lst true none (List.map (eL none D.bool) l12))]) 2 (some (.lst false none (List.map (eL none D.bool) ([l1] : List (List Bool))))))) (n' := 3) (st_bsliceV (ds := List.map (eL none D.bool) ([l1] : List (List Bool))) (optC (f := fun x => viewA _ (evT _ x)) va_d optN) rfl) ?_
      refine step (v := .loc 3 0 l27.length) (σ' := (upd (upd (upd (stab [(0, .lst true none (List.map (eL none D.bool) l10)), (1, .lst true none (List.map (eL none D.bool) l12))]) 2 (some (.lst false none (List.map (eL none D.bool) ([l1] : List (List Bool)))))) 1 none) 3 (some (.lst true none (List.map (eL none D.bool) l27))))) (n' := 4) (st_app (xs := l12) (ys := ([l1] : List (List Bool))) (e := (eL none D.bool)) hl27 rfl rfl rfl (src_l (xs := ([l1] : List (List Bool))) (e := (eL none D.bool)) rfl rfl rfl)) ?_
      refine q1 _ ?_
      exact nR [0, 3]
     exact And.intro rfl rfl
    ·
     replace h := iteF hc24 h
     refine NWp.condF (t := (x19.What == 5)) rfl hc24 ?_
     refine NWp.opsJ ⟨tab [(0, vl1 a0), (1, vl0 a1), (8, .d (eL none D.bool l1)), (9, .loc 0 0 l10.length), (11, .d (eL none D.bool y11)), (12, .loc 1 0 l12.length), (13, vi i13), (14, .ptr 2 0 0), (69, vi x19.What), (83, vb (x19.What == 6))], stab [(0, .lst true none (List.map (eL none D.bool) l10)), (1, .lst true none (List.map (eL none D.bool) l12)), (2, .var [vi x19.What, vi x19.Switch, vh x19.Hop.In.a0, vh x19.Hop.In.a1, vh x19.Hop.In.a2, vh x19.Hop.In.a3, vh x19.Hop.In.a4, vh x19.Hop.In.a5, vh x19.Hop.In.a6, vh x19.Hop.In.a7, vb x19.Hop.Fresh, vh x19.Hop.Tag, .d (.int .u64 x19.Hop.Was), .d (.int .u64 x19.Hop.Now), .d (.int .u64 x19.Hop.New), .d (eL (some 8) (eA8 (D.int .u16)) x19.Hop.Out), vi x19.Hop.Err, vi x19.Path])], 3⟩ ?_ ?_
     ·
      iterate 2 refine q1 _ ?_
      exact nR [0, 1, 2]
     by_cases hc28 : (x19.What == 6) = true
     ·
      replace h := iteT hc28 h
      refine NWp.condT (t := (x19.What == 6)) rfl hc28 ?_
      obtain ⟨x29, hx29, h⟩ := bindE h
      obtain ⟨r30, hr30, h⟩ := bindE h
      obtain ⟨l31, hl31, h⟩ := bindE h
      refine NWp.opsSJ ⟨tab [(0, vl1 a0), (1, vl0 a1), (8, .d (eL none D.bool l1)), (9, .loc 0 0 l31.length), (11, .d (eL none D.bool y11)), (12, .loc 1 0 l12.length), (13, vi i13)], stab [(0, .lst true none (List.map (eL none D.bool) l31)), (1, .lst true none (List.map (eL none D.bool) l12))], 2⟩ ?_ ?_
      ·
       refine stepL [] [] (v := .loc 0 0 l10.length) rfl rfl rfl ?_
       refine stepL [] [] (v := .ptr 2 0 1) rfl rfl rfl ?_
       refine stepL [2] [] (v := vi x19.Switch) rfl rfl rfl ?_
       refine stepL [] [] (v := .loc 0 0 l10.length) rfl rfl rfl ?_
       refine stepL [] [] (v := .ptr 2 0 1) rfl rfl rfl ?_
       refine stepL [2] [] (v := vi x19.Switch) rfl rfl rfl ?_
       refine stepL [0] [] (v := .ptr 0 x19.Switch.toNat 0) (st_iaddrL (xs := l10) (e := (eL none D.bool)) hx29 rfl rfl rfl rfl) rfl rfl ?_
       refine stepL [0] [] (v := .d (eL none D.bool x29)) (st_loadL (xs := l10) (e := (eL none D.bool)) hx29 rfl rfl rfl) rfl rfl ?_
       refine stepL [] [] (v := .d (eL none D.bool y11)) rfl rfl rfl ?_
       refine stepLW (v := .d (eL none D.bool r30)) (σ' := (stab [(0, .lst true none (List.map (eL none D.bool) l10)), (1, .lst true none (List.map (eL none D.bool) l12)), (2, .var [vi x19.What, vi x19.Switch, vh x19.Hop.In.a0, vh x19.Hop.In.a1, vh x19.Hop.In.a2, vh x19.Hop.In.a3, vh x19.Hop.In.a4, vh x19.Hop.In.a5, vh x19.Hop.In.a6, vh x19.Hop.In.a7, vb x19.Hop.Fresh, vh x19.Hop.Tag, .d (.int .u64 x19.Hop.Was), .d (.int .u64 x19.Hop.Now), .d (.int .u64 x19.Hop.New), .d (eL (some 8) (eA8 (D.int .u16)) x19.Hop.Out), vi x19.Hop.Err, vi x19.Path])])) (R := []) (W := []) (PCall.fplain (SCall.dataL (ds := [eL none D.bool x29, eL none D.bool y11]) (c_ref21_union hr30) (by simp)) (fun _ => (ArgsOk.dt (ArgsOk.dt ArgsOk.nil')))) trivial rfl rfl rfl ?_
       refine stepL [0] [] (v := .ptr 0 x19.Switch.toNat 0) (st_iaddrL (xs := l10) (e := (eL none D.bool)) hx29 rfl rfl rfl rfl) rfl rfl ?_
       refine stepL [0] [0] (v := V.undef) (σ' := (upd (stab [(0, .lst true none (List.map (eL none D.bool) l10)), (1, .lst true none (List.map (eL none D.bool) l12)), (2, .var [vi x19.What, vi x19.Switch, vh x19.Hop.In.a0, vh x19.Hop.In.a1, vh x19.Hop.In.a2, vh x19.Hop.In.a3, vh x19.Hop.In.a4, vh x19.Hop.In.a5, vh x19.Hop.In.a6, vh x19.Hop.In.a7, vb x19.Hop.Fresh, vh x19.Hop.Tag, .d (.int .u64 x19.Hop.Was), .d (.int .u64 x19.Hop.Now), .d (.int .u64 x19.Hop.New), .d (eL (some 8) (eA8 (D.int .u16)) x19.Hop.Out), vi x19.Hop.Err, vi x19.Path])]) 0 (some (.lst true none (List.map (eL none D.bool) l31))))) (n' := 3) (st_storeL' (e := (eL none D.bool)) (v' := r30) hl31 rfl rfl rfl rfl rfl) rfl rfl ?_
       exact RunOpsL.nil' ⟨by decide, nm [0, 1] ⟨.d _, .d _, .d _, .le (id := 0) (gput_len hl31).symm (show 0 < 2 by decide), .d _, .lc 1, .d _, trivial⟩ ⟨⟨show 0 < 2 by decide, _, rfl, .lst _ _ _⟩, ⟨show 1 < 2 by decide, _, rfl, .lst _ _ _⟩, trivial⟩⟩
      obtain ⟨l32, hl32, h⟩ := bindE h
      have hh := Option.some.inj h
      subst hh
      refine NWp.opsE ⟨tab [(0, vl1 a0), (1, vl0 a1), (8, .d (eL none D.bool l1)), (9, .loc 0 0 l31.length), (11, .d (eL none D.bool y11)), (12, .loc 1 0 l32.length), (13, vi i13)], stab [(0, .lst true none (List.map (eL none D.bool) l31)), (1, .lst true none (List.map (eL none D.bool) l32))], 2⟩ ?_ ?_
      ·
       iterate 2 refine q1 _ ?_
       refine step (v := .loc 2 0 (([l1] : List (List Bool)).length)) (σ' := (upd (stab [(0, .lst true none (List.map (eL none D.bool) l31)), (1, .lst true none (List.map (eL none D.bool) l12))]) 2 (some (.lst false none (List.map (eL none D.bool) ([l1] : List (List Bool))))))) (n' := 3) (st_bsliceV (ds := List.map (eL none D.bool) ([l1] : List (List Bool))) (optC (f := fun x => viewA _ (evT _ x)) va_d optN) rfl) ?_
       refine step (v := .loc 3 0 l32.length) (σ' := (upd (upd (upd (stab [(0, .lst true none (List.map (eL none D.bool) l31)), (1, .lst true none (List.map (eL none D.bool) l12))]) 2 (some (.lst false none (List.map (eL none D.bool) ([l1] : List (List Bool)))))) 1 none) 3 (some (.lst true none (List.map (eL none D.bool) l32))))) (n' := 4) (st_app (xs := l12) (ys := ([l1] : List (List Bool))) (e := (eL none D.bool)) hl32 rfl rfl rfl (src_l (xs := ([l1] : List (List Bool))) (e := (eL none D.bool)) rfl rfl rfl)) ?_
       refine q1 _ ?_
       exact nR [0, 3]
      exact And.intro rfl rfl
     ·
      replace h := iteF hc28 h
      refine NWp.condF (t := (x19.What == 6)) rfl hc28 ?_
      refine NWp.opsJ ⟨tab [(0, vl1 a0), (1, vl0 a1), (8, .d (eL none D.bool l1)), (9, .loc 0 0 l10.length), (11, .d (eL none D.bool y11)), (12, .loc 1 0 l12.length), (13, vi i13), (14, .ptr 2 0 0), (100, vb (x19.What == 2))], stab [(0, .lst true none (List.map (eL none D.bool) l10)), (1, .lst true none (List.map (eL none D.bool) l12)), (2, .var [vi x19.What, vi x19.Switch, vh x19.Hop.In.a0, vh x19.Hop.In.a1, vh x19.Hop.In.a2, vh x19.Hop.In.a3, vh x19.Hop.In.a4, vh x19.Hop.In.a5, vh x19.Hop.In.a6, vh x19.Hop.In.a7, vb x19.Hop.Fresh, vh x19.Hop.Tag, .d (.int .u64 x19.Hop.Was), .d (.int .u64 x19.Hop.Now), .d (.int .u64 x19.Hop.New), .d (eL (some 8) (eA8 (D.int .u16)) x19.Hop.Out), vi x19.Hop.Err, vi x19.Path])], 3⟩ ?_ ?_
      ·
       iterate 2 refine q1 _ ?_
       exact nR [0, 1, 2]
      by_cases hc33 : (x19.What == 2) = true
      ·
       replace h := iteT hc33 h
       refine NWp.condT (t := (x19.What == 2)) rfl hc33 ?_
       obtain ⟨x34, hx34, h⟩ := bindE h
       refine NWp.opsJ ⟨tab [(0, vl1 a0), (1, vl0 a1), (8, .d (eL none D.bool l1)), (9, .loc 0 0 l10.length), (11, .d (eL none D.bool y11)), (12, .loc 1 0 l12.length), (13, vi i13), (14, .ptr 2 0 0), (15, .d (eL none D.bool x34))], stab [(0, .lst true none (List.map (eL none D.bool) l10)), (1, .lst true none (List.map (eL none D.bool) l12)), (2, .var [vi x19.What, vi x19.Switch, vh x19.Hop.In.a0, vh x19.Hop.In.a1, vh x19.Hop.In.a2, vh x19.Hop.In.a3, vh x19.Hop.In.a4, vh x19.Hop.In.a5, vh x19.Hop.In.a6, vh x19.Hop.In.a7, vb x19.Hop.Fresh, vh x19.Hop.Tag, .d (.int .u64 x19.Hop.Was), .d (.int .u64 x19.Hop.Now), .d (.int .u64 x19.Hop.New), .d (eL (some 8) (eA8 (D.int .u16)) x19.Hop.Out), vi x19.Hop.Err, vi x19.Path])], 3⟩ ?_ ?_
       ·
        iterate 3 refine q1 _ ?_
        refine step (v := .ptr 0 x19.Switch.toNat 0) (st_iaddrL (xs := l10) (e := (eL none D.bool)) hx34 rfl rfl rfl rfl) ?_
        refine step (v := .d (eL none D.bool x34)) (st_loadL (xs := l10) (e := (eL none D.bool)) hx34 rfl rfl rfl) ?_
        refine q1 _ ?_
        exact nR [0, 1, 2]
       obtain ⟨r35, hr35, h⟩ := bindE h
       refine NWp.opsJ ⟨tab [(0, vl1 a0), (1, vl0 a1), (8, .d (eL none D.bool l1)), (9, .loc 0 0 l10.length), (11, .d (eL none D.bool y11)), (12, .loc 1 0 l12.length), (13, vi i13), (14, .ptr 2 0 0), (15, .d (eL none D.bool x34)), (16, vi r35.1), (17, vb r35.2)], stab [(0, .lst true none (List.map (eL none D.bool) l10)), (1, .lst true none (List.map (eL none D.bool) l12)), (2, .var [vi x19.What, vi x19.Switch, vh x19.Hop.In.a0, vh x19.Hop.In.a1, vh x19.Hop.In.a2, vh x19.Hop.In.a3, vh x19.Hop.In.a4, vh x19.Hop.In.a5, vh x19.Hop.In.a6, vh x19.Hop.In.a7, vb x19.Hop.Fresh, vh x19.Hop.Tag, .d (.int .u64 x19.Hop.Was), .d (.int .u64 x19.Hop.Now), .d (.int .u64 x19.Hop.New), .d (eL (some 8) (eA8 (D.int .u16)) x19.Hop.Out), vi x19.Hop.Err, vi x19.Path])], 3⟩ ?_ ?_
       ·
        iterate 3 refine q1 _ ?_
        refine stepC (r := .tup [.int .i64 r35.1, .bool r35.2]) (ArgsOk.dt (ArgsOk.dt (ArgsOk.dt ArgsOk.nil'))) (c_ref21_earlier hr35) ?_
        iterate 5 refine q1 _ ?_
        exact nR [0, 1, 2]
       refine NWp.seq ?_
       refine NWp.opsJ ⟨tab [(0, vl1 a0), (1, vl0 a1), (8, .d (eL none D.bool l1)), (9, .loc 0 0 l10.length), (11, .d (eL none D.bool y11)), (12, .loc 1 0 l12.length), (13, vi i13), (14, .ptr 2 0 0), (15, .d (eL none D.bool x34)), (16, vi r35.1), (115, vb (!r35.2))], stab [(0, .lst true none (List.map (eL none D.bool) l10)), (1, .lst true none (List.map (eL none D.bool) l12)), (2, .var [vi x19.What, vi x19.Switch, vh x19.Hop.In.a0, vh x19.Hop.In.a1, vh x19.Hop.In.a2, vh x19.Hop.In.a3, vh x19.Hop.In.a4, vh x19.Hop.In.a5, vh x19.Hop.In.a6, vh x19.Hop.In.a7, vb x19.Hop.Fresh, vh x19.Hop.Tag, .d (.int .u64 x19.Hop.Was), .d (.int .u64 x19.Hop.Now), .d (.int .u64 x19.Hop.New), .d (eL (some 8) (eA8 (D.int .u16)) x19.Hop.Out), vi x19.Hop.Err, vi x19.Path])], 3⟩ ?_ ?_
       ·
        iterate 2 refine q1 _ ?_
        exact nR [0, 1, 2]
       by_cases hc36 : (!r35.2) = true
       ·
        replace h := iteT hc36 h
        refine NWp.condT (t := (!r35.2)) rfl hc36 ?_
        refine NWp.opsJ ⟨tab [(6, vl3 ([] : List (List Bool))), (7, vb false)], stab [], 0⟩ ?_ ?_
        ·
         iterate 2 refine q1 _ ?_
         exact nR []
        obtain ⟨r37, kr37, hr⟩ := mapE (o := some (Br.ret (([] : List (List Bool)), false))) (g := Sum.inr) h
        subst hr
        have h := kr37
        obtain ⟨r38, kr38, hr⟩ := mapE (o := some (([] : List (List Bool)), false)) (g := Br.ret) h
        subst hr
        have h := kr38
        have hh := Option.some.inj h
        subst hh
        refine NWp.ret ?_
        refine And.intro (fun hn => nomatch hn) ?_
        intro hq
        have hq := hq.symm
        subst hq
        refine And.intro (fun hn => nomatch hn) ?_
        intro hq
        have hq := hq.symm
        subst hq
        show FQ _ _ _ _
        exact FQ.mkT (.inr rfl) (res_t (v := vl3 ([] : List (List Bool))) rfl (res_t (v := vb false) rfl rfl)) (RV.d (RV.d trivial))
       ·
        replace h := iteF hc36 h
        refine NWp.condF (t := (!r35.2)) rfl hc36 ?_
        refine NWp.skip ?_
        obtain ⟨y43, hv, h⟩ := bindE h
        refine NWp.seqN ⟨tab [(0, vl1 a0), (1, vl0 a1), (8, .d (eL none D.bool l1)), (9, .loc 0 0 l10.length), (11, .d (eL none D.bool y11)), (12, .loc 1 0 l12.length), (13, vi i13), (14, .ptr 2 0 0), (15, .d (eL none D.bool y43))], stab [(0, .lst true none (List.map (eL none D.bool) l10)), (1, .lst true none (List.map (eL none D.bool) l12)), (2, .var [vi x19.What, vi x19.Switch, vh x19.Hop.In.a0, vh x19.Hop.In.a1, vh x19.Hop.In.a2, vh x19.Hop.In.a3, vh x19.Hop.In.a4, vh x19.Hop.In.a5, vh x19.Hop.In.a6, vh x19.Hop.In.a7, vb x19.Hop.Fresh, vh x19.Hop.Tag, .d (.int .u64 x19.Hop.Was), .d (.int .u64 x19.Hop.Now), .d (.int .u64 x19.Hop.New), .d (eL (some 8) (eA8 (D.int .u16)) x19.Hop.Out), vi x19.Hop.Err, vi x19.Path])], 3⟩ ?_ ?_
        ·
         replace h := hv
         refine NWp.opsJ ⟨tab [(0, vl1 a0), (1, vl0 a1), (8, .d (eL none D.bool l1)), (9, .loc 0 0 l10.length), (11, .d (eL none D.bool y11)), (12, .loc 1 0 l12.length), (13, vi i13), (14, .ptr 2 0 0), (15, .d (eL none D.bool x34)), (16, vi r35.1), (123, vb ((decide (r35.1 ≥ 0)) && (x19.Hop.Err == 0)))], stab [(0, .lst true none (List.map (eL none D.bool) l10)), (1, .lst true none (List.map (eL none D.bool) l12)), (2, .var [vi x19.What, vi x19.Switch, vh x19.Hop.In.a0, vh x19.Hop.In.a1, vh x19.Hop.In.a2, vh x19.Hop.In.a3, vh x19.Hop.In.a4, vh x19.Hop.In.a5, vh x19.Hop.In.a6, vh x19.Hop.In.a7, vb x19.Hop.Fresh, vh x19.Hop.Tag, .d (.int .u64 x19.Hop.Was), .d (.int .u64 x19.Hop.Now), .d (.int .u64 x19.Hop.New), .d (eL (some 8) (eA8 (D.int .u16)) x19.Hop.Out), vi x19.Hop.Err, vi x19.Path])], 3⟩ ?_ ?_
         ·
          iterate 3 refine q1 _ ?_
          by_cases hg37 : decide (r35.1 ≥ 0) = true
          ·
           refine qG _ hg37 ?_
           refine q1 _ ?_
           refine qG _ hg37 ?_
           refine q1 _ ?_
           refine qG _ hg37 ?_
           refine q1 _ ?_
           refine qG _ hg37 ?_
           refine q1 _ ?_
           refine step (v := vb (x19.Hop.Err == 0)) (st_pickT (b := decide (r35.1 ≥ 0)) rfl hg37 rfl) ?_
           exact RunOps.nil' (nm [0, 1, 2] ⟨.d _, .d _, .d _, .lc 0, .d _, .lc 1, .d _, .pt 2, .d _, .d _, .eq (by first | (simp [hg37]; done) | (simp_all; done) | grind), trivial⟩ ⟨⟨show 0 < 3 by decide, _, rfl, .lst _ _ _⟩, ⟨show 1 < 3 by decide, _, rfl, .lst _ _ _⟩, ⟨show 2 < 3 by decide, _, rfl, .vars ⟨.d _, .d _, .d _, .d _, .d _, .d _, .d _, .d _, .d _, .d _, .d _, .d _, .d _, .d _, .d _, .d _, .d _, .d _, trivial⟩⟩, trivial⟩)
          ·
           iterate 4 refine qX _ hg37 ?_
           refine step (v := vb false) (st_pickF (b := decide (r35.1 ≥ 0)) rfl hg37 rfl) ?_
           exact RunOps.nil' (nm [0, 1, 2] ⟨.d _, .d _, .d _, .lc 0, .d _, .lc 1, .d _, .pt 2, .d _, .d _, .eq (by first | (simp [hg37]; done) | (simp_all; done) | grind), trivial⟩ ⟨⟨show 0 < 3 by decide, _, rfl, .lst _ _ _⟩, ⟨show 1 < 3 by decide, _, rfl, .lst _ _ _⟩, ⟨show 2 < 3 by decide, _, rfl, .vars ⟨.d _, .d _, .d _, .d _, .d _, .d _, .d _, .d _, .d _, .d _, .d _, .d _, .d _, .d _, .d _, .d _, .d _, .d _, trivial⟩⟩, trivial⟩)
         by_cases hc38 : ((decide (r35.1 ≥ 0)) && (x19.Hop.Err == 0)) = true
         ·
          replace h := iteT hc38 h
          refine NWp.condT (t := ((decide (r35.1 ≥ 0)) && (x19.Hop.Err == 0))) rfl hc38 ?_
          obtain ⟨x39, hx39, h⟩ := bindE h
          obtain ⟨r40, hr40, h⟩ := bindE h
          refine NWp.opsJ ⟨tab [(0, vl1 a0), (1, vl0 a1), (8, .d (eL none D.bool l1)), (9, .loc 0 0 l10.length), (11, .d (eL none D.bool y11)), (12, .loc 1 0 l12.length), (13, vi i13), (14, .ptr 2 0 0), (15, .loc 3 0 r40.length), (16, vi r35.1)], stab [(0, .lst true none (List.map (eL none D.bool) l10)), (1, .lst true none (List.map (eL none D.bool) l12)), (2, .var [vi x19.What, vi x19.Switch, vh x19.Hop.In.a0, vh x19.Hop.In.a1, vh x19.Hop.In.a2, vh x19.Hop.In.a3, vh x19.Hop.In.a4, vh x19.Hop.In.a5, vh x19.Hop.In.a6, vh x19.Hop.In.a7, vb x19.Hop.Fresh, vh x19.Hop.Tag, .d (.int .u64 x19.Hop.Was), .d (.int .u64 x19.Hop.Now), .d (.int .u64 x19.Hop.New), .d (eL (some 8) (eA8 (D.int .u16)) x19.Hop.Out), vi x19.Hop.Err, vi x19.Path]), (3, .lst true none (List.map D.bool r40))], 4⟩ ?_ ?_
          ·
           iterate 3 refine q1 _ ?_
           refine step (v := .ptr 1 r35.1.toNat 0) (st_iaddrL (xs := l12) (e := (eL none D.bool)) hx39 rfl rfl rfl rfl) ?_
           refine step (v := .d (eL none D.bool x39)) (st_loadL (xs := l12) (e := (eL none D.bool)) hx39 rfl rfl rfl) ?_
           refine stepW (v := .loc 3 0 r40.length) (σ' := (upd (stab [(0, .lst true none (List.map (eL none D.bool) l10)), (1, .lst true none (List.map (eL none D.bool) l12)), (2, .var [vi x19.What, vi x19.Switch, vh x19.Hop.In.a0, vh x19.Hop.In.a1, vh x19.Hop.In.a2, vh x19.Hop.In.a3, vh x19.Hop.In.a4, vh x19.Hop.In.a5, vh x19.Hop.In.a6, vh x19.Hop.In.a7, vb x19.Hop.Fresh, vh x19.Hop.Tag, .d (.int .u64 x19.Hop.Was), .d (.int .u64 x19.Hop.Now), .d (.int .u64 x19.Hop.New), .d (eL (some 8) (eA8 (D.int .u16)) x19.Hop.Out), vi x19.Hop.Err, vi x19.Path])]) 3 (some (.lst true none (List.map D.bool r40))))) (n' := 4) (SCall.lift [] (c_ref21_union hr40) (show 0 ≤ 1 by decide) (by decide) (show ∀ i ∈ [], i < 3 by decide) (dom_c (show 0 < 1 by decide) dom_n) (VNs.c (.d _) (VNs.c (.d _) VNs.nil0)) SN.nil0) (show 3 ≤ 4 by decide) ?_
           refine q1 _ ?_
           exact nR [0, 1, 2, 3]
          obtain ⟨x41, hx41, h⟩ := bindE h
          obtain ⟨l42, hl42, h⟩ := bindE h
          have hh := Option.some.inj h
          subst hh
          refine NWp.opsE ⟨tab [(0, vl1 a0), (1, vl0 a1), (8, .d (eL none D.bool l1)), (9, .loc 0 0 l10.length), (11, .d (eL none D.bool y11)), (12, .loc 1 0 l12.length), (13, vi i13), (14, .ptr 2 0 0), (15, .d (eL none D.bool l42))], stab [(0, .lst true none (List.map (eL none D.bool) l10)), (1, .lst true none (List.map (eL none D.bool) l12)), (2, .var [vi x19.What, vi x19.Switch, vh x19.Hop.In.a0, vh x19.Hop.In.a1, vh x19.Hop.In.a2, vh x19.Hop.In.a3, vh x19.Hop.In.a4, vh x19.Hop.In.a5, vh x19.Hop.In.a6, vh x19.Hop.In.a7, vb x19.Hop.Fresh, vh x19.Hop.Tag, .d (.int .u64 x19.Hop.Was), .d (.int .u64 x19.Hop.Now), .d (.int .u64 x19.Hop.New), .d (eL (some 8) (eA8 (D.int .u16)) x19.Hop.Out), vi x19.Hop.Err, vi x19.Path])], 3⟩ ?_ ?_
          ·
           iterate 2 refine q1 _ ?_
           refine step (v := .ptr 3 r35.1.toNat 0) (st_iaddrL (xs := r40) (e := D.bool) hx41 rfl rfl rfl rfl) ?_
           refine step (v := V.undef) (σ' := (upd (stab [(0, .lst true none (List.map (eL none D.bool) l10)), (1, .lst true none (List.map (eL none D.bool) l12)), (2, .var [vi x19.What, vi x19.Switch, vh x19.Hop.In.a0, vh x19.Hop.In.a1, vh x19.Hop.In.a2, vh x19.Hop.In.a3, vh x19.Hop.In.a4, vh x19.Hop.In.a5, vh x19.Hop.In.a6, vh x19.Hop.In.a7, vb x19.Hop.Fresh, vh x19.Hop.Tag, .d (.int .u64 x19.Hop.Was), .d (.int .u64 x19.Hop.Now), .d (.int .u64 x19.Hop.New), .d (eL (some 8) (eA8 (D.int .u16)) x19.Hop.Out), vi x19.Hop.Err, vi x19.Path]), (3, .lst true none (List.map D.bool r40))]) 3 (some (.lst true none (List.map D.bool l42))))) (n' := 4) (st_storeL' (e := D.bool) (v' := true) hl42 rfl rfl rfl rfl rfl) ?_
           exact RunOps.nil' (Norm.trans (s2 := ⟨tab [(0, vl1 a0), (1, vl0 a1), (8, .d (eL none D.bool l1)), (9, .loc 0 0 l10.length), (11, .d (eL none D.bool y11)), (12, .loc 1 0 l12.length), (13, vi i13), (14, .ptr 2 0 0), (15, .d (eL none D.bool l42))], stab [(0, .lst true none (List.map (eL none D.bool) l10)), (1, .lst true none (List.map (eL none D.bool) l12)), (2, .var [vi x19.What, vi x19.Switch, vh x19.Hop.In.a0, vh x19.Hop.In.a1, vh x19.Hop.In.a2, vh x19.Hop.In.a3, vh x19.Hop.In.a4, vh x19.Hop.In.a5, vh x19.Hop.In.a6, vh x19.Hop.In.a7, vb x19.Hop.Fresh, vh x19.Hop.Tag, .d (.int .u64 x19.Hop.Was), .d (.int .u64 x19.Hop.Now), .d (.int .u64 x19.Hop.New), .d (eL (some 8) (eA8 (D.int .u16)) x19.Hop.Out), vi x19.Hop.Err, vi x19.Path])], 3⟩) (Norm.imm1 [15, 130] (id := 3) (m := true) (k := none) (xs := l42) (e := D.bool) rfl (fun t ht => by simp at ht; rcases ht with rfl | rfl <;> exact ⟨_, rfl, (gput_len hl42).symm⟩)) (nr [0, 1, 2]))
          exact And.intro rfl rfl
         ·
          replace h := iteF hc38 h
          refine NWp.condF (t := ((decide (r35.1 ≥ 0)) && (x19.Hop.Err == 0))) rfl hc38 ?_
          have hh := Option.some.inj h
          subst hh
          refine NWp.norm (s0 := ⟨tab [(0, vl1 a0), (1, vl0 a1), (8, .d (eL none D.bool l1)), (9, .loc 0 0 l10.length), (11, .d (eL none D.bool y11)), (12, .loc 1 0 l12.length), (13, vi i13), (14, .ptr 2 0 0), (15, .d (eL none D.bool x34))], stab [(0, .lst true none (List.map (eL none D.bool) l10)), (1, .lst true none (List.map (eL none D.bool) l12)), (2, .var [vi x19.What, vi x19.Switch, vh x19.Hop.In.a0, vh x19.Hop.In.a1, vh x19.Hop.In.a2, vh x19.Hop.In.a3, vh x19.Hop.In.a4, vh x19.Hop.In.a5, vh x19.Hop.In.a6, vh x19.Hop.In.a7, vb x19.Hop.Fresh, vh x19.Hop.Tag, .d (.int .u64 x19.Hop.Was), .d (.int .u64 x19.Hop.Now), .d (.int .u64 x19.Hop.New), .d (eL (some 8) (eA8 (D.int .u16)) x19.Hop.Out), vi x19.Hop.Err, vi x19.Path])], 3⟩) (nr [0, 1, 2]) ?_
          refine NWp.skip ?_
          exact And.intro rfl rfl
        obtain ⟨l45, hl45, h⟩ := bindE h
        refine NWp.opsJ ⟨tab [(0, vl1 a0), (1, vl0 a1), (8, .d (eL none D.bool l1)), (9, .loc 0 0 l10.length), (11, .d (eL none D.bool y11)), (12, .loc 1 0 l45.length), (13, vi i13), (14, .ptr 2 0 0), (15, .d (eL none D.bool y43))], stab [(0, .lst true none (List.map (eL none D.bool) l10)), (1, .lst true none (List.map (eL none D.bool) l45)), (2, .var [vi x19.What, vi x19.Switch, vh x19.Hop.In.a0, vh x19.Hop.In.a1, vh x19.Hop.In.a2, vh x19.Hop.In.a3, vh x19.Hop.In.a4, vh x19.Hop.In.a5, vh x19.Hop.In.a6, vh x19.Hop.In.a7, vb x19.Hop.Fresh, vh x19.Hop.Tag, .d (.int .u64 x19.Hop.Was), .d (.int .u64 x19.Hop.Now), .d (.int .u64 x19.Hop.New), .d (eL (some 8) (eA8 (D.int .u16)) x19.Hop.Out), vi x19.Hop.Err, vi x19.Path])], 3⟩ ?_ ?_
        ·
         iterate 3 refine q1 _ ?_
         refine step (v := .loc 3 0 l45.length) (σ' := (upd (upd (stab [(0, .lst true none (List.map (eL none D.bool) l10)), (1, .lst true none (List.map (eL none D.bool) l12)), (2, .var [vi x19.What, vi x19.Switch, vh x19.Hop.In.a0, vh x19.Hop.In.a1, vh x19.Hop.In.a2, vh x19.Hop.In.a3, vh x19.Hop.In.a4, vh x19.Hop.In.a5, vh x19.Hop.In.a6, vh x19.Hop.In.a7, vb x19.Hop.Fresh, vh x19.Hop.Tag, .d (.int .u64 x19.Hop.Was), .d (.int .u64 x19.Hop.Now), .d (.int .u64 x19.Hop.New), .d (eL (some 8) (eA8 (D.int .u16)) x19.Hop.Out), vi x19.Hop.Err, vi x19.Path])]) 1 none) 3 (some (.lst true none (List.map (eL none D.bool) l45))))) (n' := 4) (st_app (xs := l12) (ys := ([y43] : List (List Bool))) (e := (eL none D.bool)) hl45 rfl rfl rfl (src_v (xs := ([y43] : List (List Bool))) (e := (eL none D.bool)) rfl)) ?_
         refine q1 _ ?_
         exact nR [0, 3, 2]
        obtain ⟨r46, hr46, h⟩ := bindE h
        refine NWp.opsJ ⟨tab [(0, vl1 a0), (1, vl0 a1), (8, .d (eL none D.bool l1)), (9, .loc 0 0 l10.length), (11, .d (eL none D.bool y11)), (12, .loc 1 0 l45.length), (13, vi i13), (14, .ptr 2 0 0), (18, .loc 3 0 r46.length)], stab [(0, .lst true none (List.map (eL none D.bool) l10)), (1, .lst true none (List.map (eL none D.bool) l45)), (2, .var [vi x19.What, vi x19.Switch, vh x19.Hop.In.a0, vh x19.Hop.In.a1, vh x19.Hop.In.a2, vh x19.Hop.In.a3, vh x19.Hop.In.a4, vh x19.Hop.In.a5, vh x19.Hop.In.a6, vh x19.Hop.In.a7, vb x19.Hop.Fresh, vh x19.Hop.Tag, .d (.int .u64 x19.Hop.Was), .d (.int .u64 x19.Hop.Now), .d (.int .u64 x19.Hop.New), .d (eL (some 8) (eA8 (D.int .u16)) x19.Hop.Out), vi x19.Hop.Err, vi x19.Path]), (3, .lst true none (List.map D.bool r46))], 4⟩ ?_ ?_
        ·
         iterate 2 refine q1 _ ?_
         refine stepW (v := .loc 3 0 r46.length) (σ' := (upd (stab [(0, .lst true none (List.map (eL none D.bool) l10)), (1, .lst true none (List.map (eL none D.bool) l45)), (2, .var [vi x19.What, vi x19.Switch, vh x19.Hop.In.a0, vh x19.Hop.In.a1, vh x19.Hop.In.a2, vh x19.Hop.In.a3, vh x19.Hop.In.a4, vh x19.Hop.In.a5, vh x19.Hop.In.a6, vh x19.Hop.In.a7, vb x19.Hop.Fresh, vh x19.Hop.Tag, .d (.int .u64 x19.Hop.Was), .d (.int .u64 x19.Hop.Now), .d (.int .u64 x19.Hop.New), .d (eL (some 8) (eA8 (D.int .u16)) x19.Hop.Out), vi x19.Hop.Err, vi x19.Path])]) 3 (some (.lst true none (List.map D.bool r46))))) (n' := 4) (SCall.lift [] (c_ref21_union hr46) (show 0 ≤ 1 by decide) (by decide) (show ∀ i ∈ [], i < 3 by decide) (dom_c (show 0 < 1 by decide) dom_n) (VNs.c (.d _) (VNs.c (.d _) VNs.nil0)) SN.nil0) (show 3 ≤ 4 by decide) ?_
         refine q1 _ ?_
         exact nR [0, 1, 2, 3]
        obtain ⟨x47, hx47, h⟩ := bindE h
        obtain ⟨l48, hl48, h⟩ := bindE h
        refine NWp.opsJ ⟨tab [(0, vl1 a0), (1, vl0 a1), (8, .d (eL none D.bool l1)), (9, .loc 0 0 l10.length), (11, .d (eL none D.bool y11)), (12, .loc 1 0 l45.length), (13, vi i13), (14, .ptr 2 0 0), (18, .loc 3 0 l48.length)], stab [(0, .lst true none (List.map (eL none D.bool) l10)), (1, .lst true none (List.map (eL none D.bool) l45)), (2, .var [vi x19.What, vi x19.Switch, vh x19.Hop.In.a0, vh x19.Hop.In.a1, vh x19.Hop.In.a2, vh x19.Hop.In.a3, vh x19.Hop.In.a4, vh x19.Hop.In.a5, vh x19.Hop.In.a6, vh x19.Hop.In.a7, vb x19.Hop.Fresh, vh x19.Hop.Tag, .d (.int .u64 x19.Hop.Was), .d (.int .u64 x19.Hop.Now), .d (.int .u64 x19.Hop.New), .d (eL (some 8) (eA8 (D.int .u16)) x19.Hop.Out), vi x19.Hop.Err, vi x19.Path]), (3, .lst true none (List.map D.bool l48))], 4⟩ ?_ ?_
        ·
         iterate 2 refine q1 _ ?_
         refine step (v := .ptr 3 i13.toNat 0) (st_iaddrL (xs := r46) (e := D.bool) hx47 rfl rfl rfl rfl) ?_
         refine step (v := V.undef) (σ' := (upd (stab [(0, .lst true none (List.map (eL none D.bool) l10)), (1, .lst true none (List.map (eL none D.bool) l45)), (2, .var [vi x19.What, vi x19.Switch, vh x19.Hop.In.a0, vh x19.Hop.In.a1, vh x19.Hop.In.a2, vh x19.Hop.In.a3, vh x19.Hop.In.a4, vh x19.Hop.In.a5, vh x19.Hop.In.a6, vh x19.Hop.In.a7, vb x19.Hop.Fresh, vh x19.Hop.Tag, .d (.int .u64 x19.Hop.Was), .d (.int .u64 x19.Hop.Now), .d (.int .u64 x19.Hop.New), .d (eL (some 8) (eA8 (D.int .u16)) x19.Hop.Out), vi x19.Hop.Err, vi x19.Path]), (3, .lst true none (List.map D.bool r46))]) 3 (some (.lst true none (List.map D.bool l48))))) (n' := 4) (st_storeL' (e := D.bool) (v' := true) hl48 rfl rfl rfl rfl rfl) ?_
         exact RunOps.nil' (nm [0, 1, 2, 3] ⟨.d _, .d _, .d _, .lc 0, .d _, .lc 1, .d _, .pt 2, .le (id := 3) (gput_len hl48).symm (show 3 < 4 by decide), trivial⟩ ⟨⟨show 0 < 4 by decide, _, rfl, .lst _ _ _⟩, ⟨show 1 < 4 by decide, _, rfl, .lst _ _ _⟩, ⟨show 2 < 4 by decide, _, rfl, .vars ⟨.d _, .d _, .d _, .d _, .d _, .d _, .d _, .d _, .d _, .d _, .d _, .d _, .d _, .d _, .d _, .d _, .d _, .d _, trivial⟩⟩, ⟨show 3 < 4 by decide, _, rfl, .lst _ _ _⟩, trivial⟩)
        refine NWp.norm (s0 := ⟨tab [(0, vl1 a0), (1, vl0 a1), (8, .d (eL none D.bool l1)), (9, .loc 0 0 l10.length), (11, .d (eL none D.bool y11)), (12, .loc 1 0 l45.length), (13, vi i13), (14, .ptr 2 0 0), (18, .d (eL none D.bool l48))], stab [(0, .lst true none (List.map (eL none D.bool) l10)), (1, .lst true none (List.map (eL none D.bool) l45)), (2, .var [vi x19.What, vi x19.Switch, vh x19.Hop.In.a0, vh x19.Hop.In.a1, vh x19.Hop.In.a2, vh x19.Hop.In.a3, vh x19.Hop.In.a4, vh x19.Hop.In.a5, vh x19.Hop.In.a6, vh x19.Hop.In.a7, vb x19.Hop.Fresh, vh x19.Hop.Tag, .d (.int .u64 x19.Hop.Was), .d (.int .u64 x19.Hop.Now), .d (.int .u64 x19.Hop.New), .d (eL (some 8) (eA8 (D.int .u16)) x19.Hop.Out), vi x19.Hop.Err, vi x19.Path])], 3⟩) (Norm.trans (s2 := ⟨tab [(0, vl1 a0), (1, vl0 a1), (8, .d (eL none D.bool l1)), (9, .loc 0 0 l10.length), (11, .d (eL none D.bool y11)), (12, .loc 1 0 l45.length), (13, vi i13), (14, .ptr 2 0 0), (18, .d (eL none D.bool l48))], stab [(0, .lst true none (List.map (eL none D.bool) l10)), (1, .lst true none (List.map (eL none D.bool) l45)), (2, .var [vi x19.What, vi x19.Switch, vh x19.Hop.In.a0, vh x19.Hop.In.a1, vh x19.Hop.In.a2, vh x19.Hop.In.a3, vh x19.Hop.In.a4, vh x19.Hop.In.a5, vh x19.Hop.In.a6, vh x19.Hop.In.a7, vb x19.Hop.Fresh, vh x19.Hop.Tag, .d (.int .u64 x19.Hop.Was), .d (.int .u64 x19.Hop.Now), .d (.int .u64 x19.Hop.New), .d (eL (some 8) (eA8 (D.int .u16)) x19.Hop.Out), vi x19.Hop.Err, vi x19.Path])], 3⟩) (Norm.imm1 [18] (id := 3) (m := true) (k := none) (xs := l48) (e := D.bool) rfl (fun t ht => by cases ht with | head => exact ⟨_, rfl, rfl⟩ | tail _ h => cases h)) (nr [0, 1, 2])) ?_
        obtain ⟨l49, hl49, h⟩ := bindE h
        have hh := Option.some.inj h
        subst hh
        refine NWp.opsE ⟨tab [(0, vl1 a0), (1, vl0 a1), (8, .d (eL none D.bool l1)), (9, .loc 0 0 l49.length), (11, .d (eL none D.bool y11)), (12, .loc 1 0 l45.length), (13, vi i13)], stab [(0, .lst true none (List.map (eL none D.bool) l49)), (1, .lst true none (List.map (eL none D.bool) l45))], 2⟩ ?_ ?_
        ·
         iterate 4 refine q1 _ ?_
         refine step (v := .ptr 0 x19.Switch.toNat 0) (st_iaddrL (xs := l10) (e := (eL none D.bool)) hx34 rfl rfl rfl rfl) ?_
         refine step (v := V.undef) (σ' := (upd (stab [(0, .lst true none (List.map (eL none D.bool) l10)), (1, .lst true none (List.map (eL none D.bool) l45)), (2, .var [vi x19.What, vi x19.Switch, vh x19.Hop.In.a0, vh x19.Hop.In.a1, vh x19.Hop.In.a2, vh x19.Hop.In.a3, vh x19.Hop.In.a4, vh x19.Hop.In.a5, vh x19.Hop.In.a6, vh x19.Hop.In.a7, vb x19.Hop.Fresh, vh x19.Hop.Tag, .d (.int .u64 x19.Hop.Was), .d (.int .u64 x19.Hop.Now), .d (.int .u64 x19.Hop.New), .d (eL (some 8) (eA8 (D.int .u16)) x19.Hop.Out), vi x19.Hop.Err, vi x19.Path])]) 0 (some (.lst true none (List.map (eL none D.bool) l49))))) (n' := 3) (st_storeL' (e := (eL none D.bool)) (v' := l48) hl49 rfl rfl rfl rfl rfl) ?_
         exact RunOps.nil' (nm [0, 1] ⟨.d _, .d _, .d _, .le (id := 0) (gput_len hl49).symm (show 0 < 2 by decide), .d _, .lc 1, .d _, trivial⟩ ⟨⟨show 0 < 2 by decide, _, rfl, .lst _ _ _⟩, ⟨show 1 < 2 by decide, _, rfl, .lst _ _ _⟩, trivial⟩)
        exact And.intro rfl rfl
      ·
       replace h := iteF hc33 h
       refine NWp.condF (t := (x19.What == 2)) rfl hc33 ?_
       refine NWp.opsJ ⟨tab [(6, vl3 ([] : List (List Bool))), (7, vb false)], stab [], 0⟩ ?_ ?_
       ·
        iterate 2 refine q1 _ ?_
        exact nR []
       obtain ⟨r50, kr50, hr⟩ := mapE (o := some (Br.ret (([] : List (List Bool)), false))) (g := Sum.inr) h
       subst hr
       have h := kr50
       obtain ⟨r51, kr51, hr⟩ := mapE (o := some (([] : List (List Bool)), false)) (g := Br.ret) h
       subst hr
       have h := kr51
       have hh := Option.some.inj h
       subst hh
       refine NWp.ret ?_
       refine And.intro (fun hn => nomatch hn) ?_
       intro hq
       have hq := hq.symm
       subst hq
       refine And.intro (fun hn => nomatch hn) ?_
       intro hq
       have hq := hq.symm
       subst hq
       show FQ _ _ _ _
       exact FQ.mkT (.inr rfl) (res_t (v := vl3 ([] : List (List Bool))) rfl (res_t (v := vb false) rfl rfl)) (RV.d (RV.d trivial))
  ·
   intro r' hq
   subst hq
   exact Option.some.inj h
  rintro ⟨l50, y51, l52⟩ rfl
  show NWp _ _ _ _ _ ⟨tab [(0, vl1 a0), (1, vl0 a1), (8, .d (eL none D.bool l1)), (9, .loc 0 0 l50.length), (11, .d (eL none D.bool y51)), (12, .loc 1 0 l52.length), (13, vi i13)], stab [(0, .lst true none (List.map (eL none D.bool) l50)), (1, .lst true none (List.map (eL none D.bool) l52))], 2⟩
  have hh := Option.some.inj h
  subst hh
  refine NWp.opsE ⟨tab [(0, vl1 a0), (1, vl0 a1), (8, .d (eL none D.bool l1)), (9, .loc 0 0 l50.length), (11, .d (eL none D.bool y51)), (12, .loc 1 0 l52.length), (13, vi (i13 + 1))], stab [(0, .lst true none (List.map (eL none D.bool) l50)), (1, .lst true none (List.map (eL none D.bool) l52))], 2⟩ ?_ ?_
  ·
   refine q1 _ ?_
   refine step (v := vi (i13 + 1)) (st_inc (inc_ok hinv16 hgo15 hB14) rfl rfl) ?_
   refine q1 _ ?_
   exact nR [0, 1]
  exact And.intro rfl rfl
 ·
  rintro i13 ⟨l10, y11, l12⟩ hinv16 hgo15
  show NWp _ _ _ _ _ ⟨tab [(0, vl1 a0), (1, vl0 a1), (8, .d (eL none D.bool l1)), (9, .loc 0 0 l10.length), (11, .d (eL none D.bool y11)), (12, .loc 1 0 l12.length), (13, vi i13)], stab [(0, .lst true none (List.map (eL none D.bool) l10)), (1, .lst true none (List.map (eL none D.bool) l12))], 2⟩
  have hc17 : ¬ (decide (i13 < (a1.length : Int)) = true) := fun hq => hgo15 (of_decide_eq_true hq)
  refine NWp.seq ?_
  refine NWp.opsJ ⟨tab [(0, vl1 a0), (1, vl0 a1), (8, .d (eL none D.bool l1)), (9, .loc 0 0 l10.length), (11, .d (eL none D.bool y11)), (12, .loc 1 0 l12.length), (13, vi i13), (39, vb (decide (i13 < (a1.length : Int))))], stab [(0, .lst true none (List.map (eL none D.bool) l10)), (1, .lst true none (List.map (eL none D.bool) l12))], 2⟩ ?_ ?_
  ·
   iterate 2 refine q1 _ ?_
   refine step (v := vi (a1.length : Int)) (st_len (xs := a1) (e := eapi_Step) rfl) ?_
   refine q1 _ ?_
   exact nR [0, 1]
  refine NWp.condF (t := decide (i13 < (a1.length : Int))) rfl hc17 ?_
  refine NWp.norm (s0 := ⟨tab [(12, .loc 0 0 l12.length)], stab [(0, .lst true none (List.map (eL none D.bool) l12))], 1⟩) (nr [1]) ?_
  refine NWp.exit ?_
  exact And.intro rfl rfl
 ·
  intro r' hq
  subst hq
  exact Option.some.inj h
 rintro ⟨z54, z55, z56⟩ rfl
 refine NWp.opsJ ⟨tab [(6, .loc 0 0 z56.length), (7, vb true)], stab [(0, .lst true none (List.map (eL none D.bool) z56))], 1⟩ ?_ ?_
 ·
  iterate 3 refine q1 _ ?_
  exact nR [0]
 have hh := Option.some.inj h
 subst hh
 refine NWp.ret ?_
 show FQ _ _ _ _
 exact FQ.mkT (.inr rfl) (res_t (v := .loc 0 0 z56.length) rfl (res_t (v := vb true) rfl rfl)) (RV.loc (xs := z56) (e := (eL none D.bool)) rfl rfl (RV.d trivial))


end Go.AM
