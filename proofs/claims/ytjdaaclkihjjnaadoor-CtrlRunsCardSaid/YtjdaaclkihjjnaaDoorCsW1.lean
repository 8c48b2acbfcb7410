import Derived.Test.YtjdaaclkihjjnaaDoorCsE
/-  What they are in the program: walks. -/
set_option linter.unusedVariables false
set_option linter.unusedSimpArgs false
namespace Go.AM
open Go Go.RowKit Go.Proofs

attribute [local irreducible] RunOps RunOpsL

theorem c_ctrl_New {a0 : api_Nes} {a1 : Int} {r : ctrl_Ctrl} (h : ctrl_New a0 a1 = some r) : SCall Tryd.prog 8 [vs1 a0, vi a1] (stab []) 0 (.ptr 0 0 0) (stab [(0, .var [vl1 r.n_.Events, vl0 r.n_.Sets, .d (eL none (eL none (D.int .u16)) r.n_.States), .d (.int .u64 r.known), .loc 1 0 r.peers.length, .loc 2 0 r.order.length]), (1, .lst true (some 2) (List.map ectrl_peer r.peers)), (2, .lst false none (List.map (D.int .i64) r.order))]) 3 := by
 refine SCall.introN (bl := []) (bl' := [(0, .var [vl1 r.n_.Events, vl0 r.n_.Sets, .d (eL none (eL none (D.int .u16)) r.n_.States), .d (.int .u64 r.known), .loc 1 0 r.peers.length, .loc 2 0 r.order.length]), (1, .lst true (some 2) (List.map ectrl_peer r.peers)), (2, .lst false none (List.map (D.int .i64) r.order))]) ok8 (show 2 ≤ 12 by decide) rfl ?_
 refine NWp.norm (s0 := ⟨tab [(0, vs1 a0), (1, vi a1)], stab [], 0⟩) (nr []) ?_
 refine NWp.opsJ ⟨tab [(1, vi a1), (2, vp0 a0)], stab [], 0⟩ ?_ ?_
 ·
  iterate 2 refine q1 _ ?_
  exact nR []
 obtain ⟨l1, hl1, h⟩ := bindE h
 refine NWp.opsJ ⟨tab [(4, .ptr 0 0 0)], stab [(0, .var [vl1 a0.Events, vl0 a0.Sets, .d (eL none (eL none (D.int .u16)) a0.States), .d (.int .u64 0), .loc 1 0 l1.length, .loc 2 0 (([] : List Int).length)]), (1, .lst true (some 2) (List.map ectrl_peer l1)), (2, .lst false none (List.map (D.int .i64) ([] : List Int)))], 3⟩ ?_ ?_
 ·
  iterate 4 refine q1 _ ?_
  refine step (v := .loc 0 0 l1.length) (σ' := (upd (stab []) 0 (some (.lst true (some 2) (List.map ectrl_peer l1))))) (n' := 1) (st_mk (e := ectrl_peer) (z := (ctrl_peer.mk 0 0)) hl1 rfl rfl (gmk_le hl1)) ?_
  refine q1 _ ?_
  refine step (v := .ptr 1 0 0) (σ' := (upd (upd (stab []) 0 (some (.lst true (some 2) (List.map ectrl_peer l1)))) 1 (some (.var [vl1 a0.Events, vl0 a0.Sets, .d (eL none (eL none (D.int .u16)) a0.States), .d (.int .u64 0), .loc 0 0 l1.length, .d (.nils)])))) (n' := 2) rfl ?_
  refine q1 _ ?_
  exact RunOps.nil' (Norm.trans (s2 := ⟨tab [(4, .ptr 0 0 0)], stab [(0, .var [vl1 a0.Events, vl0 a0.Sets, .d (eL none (eL none (D.int .u16)) a0.States), .d (.int .u64 0), .loc 1 0 l1.length, .loc 2 0 (([] : List Int).length)]), (1, .lst true (some 2) (List.map ectrl_peer l1)), (2, .lst false none (List.map (D.int .i64) ([] : List Int)))], 3⟩) (Norm.nilcell 1 5 false none rfl rfl (show 1 ≠ 2 by decide)) (nr [1, 0, 2]))
 have hh := Option.some.inj h
 subst hh
 refine NWp.ret ?_
 exact ⟨.inr rfl, _, rfl, rfl, AllS.sub ⟨rfl, rfl, rfl, trivial⟩, rfl⟩

theorem c_ctrl_Ctrl_has {a0 : ctrl_Ctrl} {a1 : Int} {r : Bool} (h : ctrl_Ctrl_has a0 a1 = some r) : PCall Tryd.prog 26 [.cptr (some 6) (ectrl_Ctrl a0) 0, .int .i64 a1] (.bool r) := by
 refine PCall.introN ok26 (show 2 ≤ 20 by decide) ?_
 refine NWp.norm (s0 := ⟨tab [(0, vp6 a0), (1, vi a1)], stab [], 0⟩) (nr []) ?_
 refine NWp.opsJ ⟨tab [(0, vp6 a0), (1, vi a1)], stab [], 0⟩ ?_ ?_
 ·
  refine q1 _ ?_
  exact nR []
 refine NWp.opsJ ⟨tab [(4, vb ((decide (a1 ≥ 0)) && (decide (a1 < (a0.peers.length : Int)))))], stab [], 0⟩ ?_ ?_
 ·
  iterate 3 refine q1 _ ?_
  refine qG true rfl ?_
  refine q1 _ ?_
  refine qG true rfl ?_
  refine q1 _ ?_
  refine step (v := vb (decide (a1 ≥ 0))) (st_pickT (b := true) rfl rfl rfl) ?_
  refine q1 _ ?_
  by_cases hg1 : decide (a1 ≥ 0) = true
  ·
   refine qG _ hg1 ?_
   refine q1 _ ?_
   refine qG _ hg1 ?_
   refine q1 _ ?_
   refine qG _ hg1 ?_
   refine q1 _ ?_
   refine qG _ hg1 ?_
   refine q1 _ ?_
   refine qG _ hg1 ?_
   refine q1 _ ?_
   refine qG _ hg1 ?_
   refine step (v := vi (a0.peers.length : Int)) (st_len (xs := a0.peers) (e := ectrl_peer) rfl) ?_
   refine qG _ hg1 ?_
   refine q1 _ ?_
   refine step (v := vb (decide (a1 < (a0.peers.length : Int)))) (st_pickT (b := decide (a1 ≥ 0)) rfl hg1 rfl) ?_
   refine q1 _ ?_
   exact RunOps.nil' (nm [] ⟨.eq (by first | (simp [hg1]; done) | (simp_all; done) | grind), trivial⟩ trivial)
  ·
   iterate 7 refine qX _ hg1 ?_
   refine step (v := vb false) (st_pickF (b := decide (a1 ≥ 0)) rfl hg1 rfl) ?_
   refine q1 _ ?_
   exact RunOps.nil' (nm [] ⟨.eq (by first | (simp [hg1]; done) | (simp_all; done) | grind), trivial⟩ trivial)
 have hh := Option.some.inj h
 subst hh
 refine NWp.ret ?_
 show FQ _ _ _ _
 exact FQ.mk1 (.inr rfl) (res_t (v := vb ((decide (a1 ≥ 0)) && (decide (a1 < (a0.peers.length : Int))))) rfl rfl) (RV.d trivial)

theorem c_slices_Index_api_Set {a0 : (List Int)} {a1 : Int} {r : Int} (h : slices_Index_api_Set a0 a1 = some r) : PCall Tryd.prog 47 [eL none (D.int .u64) a0, .int .u64 a1] (.int .i64 r) := by
 refine PCall.introN ok47 (show 2 ≤ 19 by decide) ?_
 refine NWp.norm (s0 := ⟨tab [(0, vl0 a0), (1, .d (.int .u64 a1))], stab [], 0⟩) (nr []) ?_
 refine NWp.opsJ ⟨tab [(0, vl0 a0), (1, .d (.int .u64 a1))], stab [], 0⟩ ?_ ?_
 ·
  refine q1 _ ?_
  exact nR []
 refine NWp.seq ?_
 refine NWp.opsJ ⟨tab [(0, vl0 a0), (1, .d (.int .u64 a1)), (7, vi (a0.length : Int)), (8, vi 0)], stab [], 0⟩ ?_ ?_
 ·
  refine q1 _ ?_
  refine step (v := vi (a0.length : Int)) (st_len (xs := a0) (e := (D.int .u64)) rfl) ?_
  refine q1 _ ?_
  exact nR []
 obtain ⟨q9, hl, h⟩ := bindE h
 refine NWp.block ?_
 refine loop_forR (cntU (a0.length : Int)) (fun (i1 : Int) (qq : Unit) => ⟨tab [(0, vl0 a0), (1, .d (.int .u64 a1)), (7, vi (a0.length : Int)), (8, vi i1)], stab [], 0⟩) 0 (fun (qq : Unit) => ⟨tab [], stab [], 0⟩) Low low_step (r := r) hl (by unfold Low; omega) ?_ ?_ ?_ ?_
 ·
  rintro i1 ⟨⟩ xr6 hinv4 hgo3 h
  show NWp _ _ _ _ _ ⟨tab [(0, vl0 a0), (1, .d (.int .u64 a1)), (7, vi (a0.length : Int)), (8, vi i1)], stab [], 0⟩
  have hc5 : decide (i1 < (a0.length : Int)) = true := decide_eq_true hgo3
  refine NWp.opsJ ⟨tab [(0, vl0 a0), (1, .d (.int .u64 a1)), (7, vi (a0.length : Int)), (8, vi i1), (9, vb (decide (i1 < (a0.length : Int))))], stab [], 0⟩ ?_ ?_
  ·
   refine q1 _ ?_
   exact nR []
  refine NWp.rng 7 rfl fun hB2 => ?_
  refine NWp.seq ?_
  refine NWp.condT (t := decide (i1 < (a0.length : Int))) rfl hc5 ?_
  refine NWp.skip ?_
  refine NWp.seq ?_
  refine NWp.block ?_
  refine NWp.opsJ ⟨tab [(0, vl0 a0), (1, .d (.int .u64 a1)), (5, vi i1), (7, vi (a0.length : Int)), (8, vi i1)], stab [], 0⟩ ?_ ?_
  ·
   iterate 2 refine q1 _ ?_
   exact nR []
  obtain ⟨x7, hx7, h⟩ := bindE h
  refine NWp.opsJ ⟨tab [(0, vl0 a0), (1, .d (.int .u64 a1)), (5, vi i1), (7, vi (a0.length : Int)), (8, vi i1), (16, vb (a1 == x7))], stab [], 0⟩ ?_ ?_
  ·
   iterate 3 refine q1 _ ?_
   refine step (v := .d (.cptr none (.int .u64 x7) 0)) (st_iaddr (xs := a0) (e := (D.int .u64)) hx7 rfl rfl) ?_
   iterate 2 refine q1 _ ?_
   exact nR []
  by_cases hc8 : (a1 == x7) = true
  ·
   replace h := iteT hc8 h
   refine NWp.condT (t := (a1 == x7)) rfl hc8 ?_
   refine NWp.opsJ ⟨tab [(4, vi i1)], stab [], 0⟩ ?_ ?_
   ·
    iterate 2 refine q1 _ ?_
    exact nR []
   obtain ⟨r9, kr9, hr⟩ := mapE (o := some i1) (g := Br.ret) h
   subst hr
   have h := kr9
   have hh := Option.some.inj h
   subst hh
   refine NWp.ret ?_
   refine And.intro (fun hn => nomatch hn) ?_
   intro hq
   have hq := hq.symm
   subst hq
   show FQ _ _ _ _
   exact FQ.mk1 (.inr rfl) (res_t (v := vi i1) rfl rfl) (RV.d trivial)
  ·
   replace h := iteF hc8 h
   refine NWp.condF (t := (a1 == x7)) rfl hc8 ?_
   refine NWp.skip ?_
   have hh := Option.some.inj h
   subst hh
   refine NWp.opsE ⟨tab [(0, vl0 a0), (1, .d (.int .u64 a1)), (7, vi (a0.length : Int)), (8, vi (i1 + 1))], stab [], 0⟩ ?_ ?_
   ·
    refine step (v := vi (i1 + 1)) (st_inc (inc_ok hinv4 hgo3 hB2) rfl rfl) ?_
    refine q1 _ ?_
    exact nR []
   exact And.intro rfl rfl
 ·
  rintro i1 ⟨⟩ hinv4 hgo3
  show NWp _ _ _ _ _ ⟨tab [(0, vl0 a0), (1, .d (.int .u64 a1)), (7, vi (a0.length : Int)), (8, vi i1)], stab [], 0⟩
  have hc5 : ¬ (decide (i1 < (a0.length : Int)) = true) := fun hq => hgo3 (of_decide_eq_true hq)
  refine NWp.opsJ ⟨tab [(0, vl0 a0), (1, .d (.int .u64 a1)), (7, vi (a0.length : Int)), (8, vi i1), (9, vb (decide (i1 < (a0.length : Int))))], stab [], 0⟩ ?_ ?_
  ·
   refine q1 _ ?_
   exact nR []
  refine NWp.seq ?_
  refine NWp.condF (t := decide (i1 < (a0.length : Int))) rfl hc5 ?_
  refine NWp.norm (s0 := ⟨tab [], stab [], 0⟩) (nr []) ?_
  refine NWp.exit ?_
  exact And.intro rfl rfl
 ·
  intro r' hq
  subst hq
  exact Option.some.inj h
 rintro ⟨⟩ rfl
 refine NWp.opsJ ⟨tab [(4, vi (-1))], stab [], 0⟩ ?_ ?_
 ·
  refine q1 _ ?_
  exact nR []
 have hh := Option.some.inj h
 subst hh
 refine NWp.ret ?_
 show FQ _ _ _ _
 exact FQ.mk1 (.inr rfl) (res_t (v := vi (-1)) rfl rfl) (RV.d trivial)

theorem c_nes_Tag {a0 : api_Nes} {a1 : Int} {r : (Int × Bool)} (h : nes_Tag a0 a1 = some r) : PCall Tryd.prog 30 [eapi_Nes a0, .int .u64 a1] (.tup [.int .u16 r.1, .bool r.2]) := by
 refine PCall.introN ok30 (show 2 ≤ 16 by decide) ?_
 refine NWp.norm (s0 := ⟨tab [(0, vs1 a0), (1, .d (.int .u64 a1))], stab [], 0⟩) (nr []) ?_
 refine NWp.opsJ ⟨tab [(1, .d (.int .u64 a1)), (2, vp0 a0)], stab [], 0⟩ ?_ ?_
 ·
  iterate 3 refine q1 _ ?_
  exact nR []
 obtain ⟨r1, hr1, h⟩ := bindE h
 refine NWp.opsJ ⟨tab [(6, vi r1)], stab [], 0⟩ ?_ ?_
 ·
  iterate 3 refine q1 _ ?_
  refine stepC (r := .int .i64 r1) (ArgsOk.dt (ArgsOk.dt ArgsOk.nil')) (c_slices_Index_api_Set hr1) ?_
  refine q1 _ ?_
  exact nR []
 refine NWp.opsJ ⟨tab [(4, vh (IntKind.u16.wrap (imax r1 0))), (5, vb (decide (r1 ≥ 0)))], stab [], 0⟩ ?_ ?_
 ·
  iterate 7 refine q1 _ ?_
  exact nR []
 have hh := Option.some.inj h
 subst hh
 refine NWp.ret ?_
 show FQ _ _ _ _
 exact FQ.mkT (.inr rfl) (res_t (v := vh (IntKind.u16.wrap (imax r1 0))) rfl (res_t (v := vb (decide (r1 ≥ 0))) rfl rfl)) (RV.d (RV.d trivial))

theorem c_ctrl_Ctrl_fits {a0 : ctrl_Ctrl} {a1 : Int} {r : Bool} (h : ctrl_Ctrl_fits a0 a1 = some r) : PCall Tryd.prog 27 [.cptr (some 6) (ectrl_Ctrl a0) 0, .int .u64 a1] (.bool r) := by
 refine PCall.introN ok27 (show 2 ≤ 17 by decide) ?_
 refine NWp.norm (s0 := ⟨tab [(0, vp6 a0), (1, .d (.int .u64 a1))], stab [], 0⟩) (nr []) ?_
 refine NWp.opsJ ⟨tab [(0, vp6 a0), (1, .d (.int .u64 a1))], stab [], 0⟩ ?_ ?_
 ·
  refine q1 _ ?_
  exact nR []
 obtain ⟨r1, hr1, h⟩ := bindE h
 refine NWp.opsJ ⟨tab [(6, vb r1.2)], stab [], 0⟩ ?_ ?_
 ·
  iterate 5 refine q1 _ ?_
  refine stepC (r := .tup [.int .u16 r1.1, .bool r1.2]) (ArgsOk.dt (ArgsOk.dt ArgsOk.nil')) (c_nes_Tag hr1) ?_
  iterate 5 refine q1 _ ?_
  exact nR []
 refine NWp.opsJ ⟨tab [(4, vb r1.2)], stab [], 0⟩ ?_ ?_
 ·
  iterate 2 refine q1 _ ?_
  exact nR []
 have hh := Option.some.inj h
 subst hh
 refine NWp.ret ?_
 show FQ _ _ _ _
 exact FQ.mk1 (.inr rfl) (res_t (v := vb r1.2) rfl rfl) (RV.d trivial)

theorem c_math_bits_TrailingZeros64 {a0 : Int} {r : Int} (h : math_bits_TrailingZeros64 a0 = some r) : PCall Tryd.prog 54 [.int .u64 a0] (.int .i64 r) := by
 refine PCall.introN ok54 (show 1 ≤ 14 by decide) ?_
 refine NWp.norm (s0 := ⟨tab [(0, .d (.int .u64 a0))], stab [], 0⟩) (nr []) ?_
 refine NWp.opsJ ⟨tab [(0, .d (.int .u64 a0))], stab [], 0⟩ ?_ ?_
 ·
  refine q1 _ ?_
  exact nR []
 refine NWp.seq ?_
 refine NWp.opsJ ⟨tab [(0, .d (.int .u64 a0)), (4, vb (a0 == 0))], stab [], 0⟩ ?_ ?_
 ·
  iterate 2 refine q1 _ ?_
  exact nR []
 by_cases hc1 : (a0 == 0) = true
 ·
  replace h := iteT hc1 h
  refine NWp.condT (t := (a0 == 0)) rfl hc1 ?_
  refine NWp.opsJ ⟨tab [(2, vi 64)], stab [], 0⟩ ?_ ?_
  ·
   refine q1 _ ?_
   exact nR []
  have hh := Option.some.inj h
  subst hh
  refine NWp.ret ?_
  show FQ _ _ _ _
  exact FQ.mk1 (.inr rfl) (res_t (v := vi 64) rfl rfl) (RV.d trivial)
 ·
  replace h := iteF hc1 h
  refine NWp.condF (t := (a0 == 0)) rfl hc1 ?_
  refine NWp.skip ?_
  obtain ⟨b2, hb2, h⟩ := bindE h
  refine NWp.opsJ ⟨tab [(2, vi (IntKind.i64.wrap b2))], stab [], 0⟩ ?_ ?_
  ·
   iterate 6 refine q1 _ ?_
   refine step (v := .d (.cptr (some 64) (.agg (gtab0.map (D.int .u8))) (0 + ((IntKind.u64.wrap ((andI .u64 a0 (IntKind.u64.wrap (0 - a0))) * 285870213051353865)).fdiv (2 ^ 58)).toNat * 1))) (st_iaddrAC (xs := gtab0) hb2 rfl rfl rfl) ?_
   refine step (v := v8 b2) (st_ldC rfl (ld_arr (e := (D.int .u8)) (xs := gtab0) (pre := []) (post := []) hb2 rfl (by decide))) ?_
   iterate 2 refine q1 _ ?_
   exact nR []
  have hh := Option.some.inj h
  subst hh
  refine NWp.ret ?_
  show FQ _ _ _ _
  exact FQ.mk1 (.inr rfl) (res_t (v := vi (IntKind.i64.wrap b2)) rfl rfl) (RV.d trivial)

theorem c_events_First {a0 : Int} {r : (Int × Bool)} (h : events_First a0 = some r) : PCall Tryd.prog 45 [.int .u64 a0] (.tup [.int .i64 r.1, .bool r.2]) := by
 refine PCall.introN ok45 (show 1 ≤ 8 by decide) ?_
 refine NWp.norm (s0 := ⟨tab [(0, .d (.int .u64 a0))], stab [], 0⟩) (nr []) ?_
 refine NWp.opsJ ⟨tab [(0, .d (.int .u64 a0))], stab [], 0⟩ ?_ ?_
 ·
  iterate 2 refine q1 _ ?_
  exact nR []
 refine NWp.seq ?_
 refine NWp.opsJ ⟨tab [(0, .d (.int .u64 a0)), (5, vb (a0 == 0))], stab [], 0⟩ ?_ ?_
 ·
  iterate 2 refine q1 _ ?_
  exact nR []
 by_cases hc1 : (a0 == 0) = true
 ·
  replace h := iteT hc1 h
  refine NWp.condT (t := (a0 == 0)) rfl hc1 ?_
  refine NWp.opsJ ⟨tab [(2, vi 0), (3, vb false)], stab [], 0⟩ ?_ ?_
  ·
   iterate 2 refine q1 _ ?_
   exact nR []
  have hh := Option.some.inj h
  subst hh
  refine NWp.ret ?_
  show FQ _ _ _ _
  exact FQ.mkT (.inr rfl) (res_t (v := vi 0) rfl (res_t (v := vb false) rfl rfl)) (RV.d (RV.d trivial))
 ·
  replace h := iteF hc1 h
  refine NWp.condF (t := (a0 == 0)) rfl hc1 ?_
  refine NWp.skip ?_
  obtain ⟨r2, hr2, h⟩ := bindE h
  refine NWp.opsJ ⟨tab [(2, vi r2), (3, vb true)], stab [], 0⟩ ?_ ?_
  ·
   refine q1 _ ?_
   refine stepC (r := .int .i64 r2) (ArgsOk.dt ArgsOk.nil') (c_math_bits_TrailingZeros64 hr2) ?_
   iterate 2 refine q1 _ ?_
   exact nR []
  have hh := Option.some.inj h
  subst hh
  refine NWp.ret ?_
  show FQ _ _ _ _
  exact FQ.mkT (.inr rfl) (res_t (v := vi r2) rfl (res_t (v := vb true) rfl rfl)) (RV.d (RV.d trivial))

theorem c_events_bit {a0 : Int} {r : Int} (h : events_bit a0 = some r) : PCall Tryd.prog 55 [.int .i64 a0] (.int .u64 r) := by
 refine PCall.introN ok55 (show 1 ≤ 11 by decide) ?_
 refine NWp.norm (s0 := ⟨tab [(0, vi a0)], stab [], 0⟩) (nr []) ?_
 refine NWp.opsJ ⟨tab [(0, vi a0)], stab [], 0⟩ ?_ ?_
 ·
  refine q1 _ ?_
  exact nR []
 refine NWp.seq ?_
 refine NWp.opsJ ⟨tab [(0, vi a0), (8, vb ((decide (a0 < 0)) || (decide (a0 ≥ 64))))], stab [], 0⟩ ?_ ?_
 ·
  iterate 3 refine q1 _ ?_
  by_cases hg1 : decide (a0 < 0) = true
  ·
   iterate 2 refine qX (decide (a0 < 0)) (by rw [hg1]; decide) ?_
   refine step (v := vb true) (st_pickT (b := decide (a0 < 0)) rfl hg1 rfl) ?_
   exact RunOps.nil' (nm [] ⟨.d _, .eq (by first | (simp [hg1]; done) | (simp_all; done) | grind), trivial⟩ trivial)
  ·
   refine qG (decide (a0 < 0)) (Bool.eq_false_iff.2 hg1) ?_
   refine q1 _ ?_
   refine qG (decide (a0 < 0)) (Bool.eq_false_iff.2 hg1) ?_
   refine q1 _ ?_
   refine step (v := vb (decide (a0 ≥ 64))) (st_pickF (b := decide (a0 < 0)) rfl hg1 rfl) ?_
   exact RunOps.nil' (nm [] ⟨.d _, .eq (by first | (simp [hg1]; done) | (simp_all; done) | grind), trivial⟩ trivial)
 by_cases hc2 : ((decide (a0 < 0)) || (decide (a0 ≥ 64))) = true
 ·
  replace h := iteT hc2 h
  refine NWp.condT (t := ((decide (a0 < 0)) || (decide (a0 ≥ 64)))) rfl hc2 ?_
  refine NWp.opsJ ⟨tab [(2, .d (.int .u64 0))], stab [], 0⟩ ?_ ?_
  ·
   refine q1 _ ?_
   exact nR []
  have hh := Option.some.inj h
  subst hh
  refine NWp.ret ?_
  show FQ _ _ _ _
  exact FQ.mk1 (.inr rfl) (res_t (v := .d (.int .u64 0)) rfl rfl) (RV.d trivial)
 ·
  replace h := iteF hc2 h
  refine NWp.condF (t := ((decide (a0 < 0)) || (decide (a0 ≥ 64)))) rfl hc2 ?_
  refine NWp.skip ?_
  obtain ⟨q3, hq3, h⟩ := bindE h
  refine NWp.opsJ ⟨tab [(2, .d (.int .u64 q3))], stab [], 0⟩ ?_ ?_
  ·
   refine q1 _ ?_
   refine step (v := .d (.int .u64 q3)) (st_shl hq3 rfl rfl) ?_
   refine q1 _ ?_
   exact nR []
  have hh := Option.some.inj h
  subst hh
  refine NWp.ret ?_
  show FQ _ _ _ _
  exact FQ.mk1 (.inr rfl) (res_t (v := .d (.int .u64 q3)) rfl rfl) (RV.d trivial)

theorem c_events_Without {a0 : Int} {a1 : Int} {r : Int} (h : events_Without a0 a1 = some r) : PCall Tryd.prog 46 [.int .u64 a0, .int .i64 a1] (.int .u64 r) := by
 refine PCall.introN ok46 (show 2 ≤ 9 by decide) ?_
 refine NWp.norm (s0 := ⟨tab [(0, .d (.int .u64 a0)), (1, vi a1)], stab [], 0⟩) (nr []) ?_
 refine NWp.opsJ ⟨tab [(0, .d (.int .u64 a0)), (1, vi a1)], stab [], 0⟩ ?_ ?_
 ·
  refine q1 _ ?_
  exact nR []
 obtain ⟨r1, hr1, h⟩ := bindE h
 refine NWp.opsJ ⟨tab [(4, .d (.int .u64 (andNotI .u64 a0 r1)))], stab [], 0⟩ ?_ ?_
 ·
  iterate 2 refine q1 _ ?_
  refine stepC (r := .int .u64 r1) (ArgsOk.dt ArgsOk.nil') (c_events_bit hr1) ?_
  iterate 2 refine q1 _ ?_
  exact nR []
 have hh := Option.some.inj h
 subst hh
 refine NWp.ret ?_
 show FQ _ _ _ _
 exact FQ.mk1 (.inr rfl) (res_t (v := .d (.int .u64 (andNotI .u64 a0 r1))) rfl rfl) (RV.d trivial)

theorem c_events_List {a0 : Int} {r : (List Int)} (h : events_List a0 = some r) : PCall Tryd.prog 28 [.int .u64 a0] (eL none (D.int .i64) r) := by
 refine PCall.introN ok28 (show 1 ≤ 25 by decide) ?_
 refine NWp.norm (s0 := ⟨tab [(0, .d (.int .u64 a0))], stab [], 0⟩) (nr []) ?_
 refine NWp.opsJ ⟨tab [(0, .d (.int .u64 a0))], stab [], 0⟩ ?_ ?_
 ·
  refine q1 _ ?_
  exact nR []
 refine NWp.opsJ ⟨tab [(0, .d (.int .u64 a0)), (3, .d (.nils))], stab [], 0⟩ ?_ ?_
 ·
  refine q1 _ ?_
  exact nR []
 refine NWp.seq ?_
 obtain ⟨r1, hr1, h⟩ := bindE h
 refine NWp.opsJ ⟨tab [(0, .d (.int .u64 a0)), (3, .d (.nils)), (4, vi r1.1), (5, vb r1.2)], stab [], 0⟩ ?_ ?_
 ·
  refine q1 _ ?_
  refine stepC (r := .tup [.int .i64 r1.1, .bool r1.2]) (ArgsOk.dt ArgsOk.nil') (c_events_First hr1) ?_
  iterate 5 refine q1 _ ?_
  exact nR []
 obtain ⟨q15, hl, h⟩ := bindE h
 obtain ⟨z11, z12, z13, z14⟩ := q15
 refine NWp.norm (s0 := ⟨tab [(0, .d (.int .u64 a0)), (3, .loc 0 0 (([] : List Int).length)), (4, vi r1.1), (5, vb r1.2)], stab [(0, .lst false none (List.map (D.int .i64) ([] : List Int)))], 1⟩) (Norm.trans (s2 := ⟨tab [(0, .d (.int .u64 a0)), (3, .loc 0 0 (([] : List Int).length)), (4, vi r1.1), (5, vb r1.2)], stab [(0, .lst false none (List.map (D.int .i64) ([] : List Int)))], 1⟩) (Norm.nil1 3 false none rfl) (nr [0])) ?_
 refine NWp.block ?_
 refine loop_whK (fun (qq : (Int × (List Int) × Int × Bool)) => ⟨tab [(0, .d (.int .u64 qq.1)), (3, .loc 0 0 qq.2.1.length), (4, vi qq.2.2.1), (5, vb qq.2.2.2)], stab [(0, .lst false none (List.map (D.int .i64) qq.2.1))], 1⟩) 0 (fun (qq : (Int × (List Int) × Int × Bool)) => ⟨tab [(3, .loc 0 0 qq.2.1.length)], stab [(0, .lst false none (List.map (D.int .i64) qq.2.1))], 1⟩) hl ?_ ?_
 ·
  rintro ⟨i2, l3, i4, y5⟩ xr6 h
  show NWp _ _ _ _ _ ⟨tab [(0, .d (.int .u64 i2)), (3, .loc 0 0 l3.length), (4, vi i4), (5, vb y5)], stab [(0, .lst false none (List.map (D.int .i64) l3))], 1⟩
  refine NWp.seq ?_
  refine NWp.opsJ ⟨tab [(0, .d (.int .u64 i2)), (3, .loc 0 0 l3.length), (4, vi i4), (11, vb y5)], stab [(0, .lst false none (List.map (D.int .i64) l3))], 1⟩ ?_ ?_
  ·
   refine q1 _ ?_
   exact nR [0]
  by_cases hc7 : y5 = true
  ·
   replace h := iteT hc7 h
   refine NWp.condT (t := y5) rfl hc7 ?_
   refine NWp.skip ?_
   refine NWp.seq ?_
   refine NWp.block ?_
   obtain ⟨l8, hl8, h⟩ := bindE h
   refine NWp.opsJ ⟨tab [(0, .d (.int .u64 i2)), (3, .loc 0 0 l8.length), (4, vi i4)], stab [(0, .lst false none (List.map (D.int .i64) l8))], 1⟩ ?_ ?_
   ·
    iterate 3 refine q1 _ ?_
    refine step (v := .loc 1 0 l8.length) (σ' := (upd (upd (stab [(0, .lst false none (List.map (D.int .i64) l3))]) 0 none) 1 (some (.lst false none (List.map (D.int .i64) l8))))) (n' := 2) (st_app (xs := l3) (ys := ([i4] : List Int)) (e := (D.int .i64)) hl8 rfl rfl rfl (src_v (xs := ([i4] : List Int)) (e := (D.int .i64)) rfl)) ?_
    refine q1 _ ?_
    exact nR [1]
   obtain ⟨r9, hr9, h⟩ := bindE h
   refine NWp.opsE ⟨tab [(0, .d (.int .u64 r9)), (3, .loc 0 0 l8.length)], stab [(0, .lst false none (List.map (D.int .i64) l8))], 1⟩ ?_ ?_
   ·
    iterate 2 refine q1 _ ?_
    refine stepC (r := .int .u64 r9) (ArgsOk.dt (ArgsOk.dt ArgsOk.nil')) (c_events_Without hr9) ?_
    refine q1 _ ?_
    exact nR [0]
   obtain ⟨r10, hr10, h⟩ := bindE h
   have hh := Option.some.inj h
   subst hh
   refine NWp.opsE ⟨tab [(0, .d (.int .u64 r9)), (3, .loc 0 0 l8.length), (4, vi r10.1), (5, vb r10.2)], stab [(0, .lst false none (List.map (D.int .i64) l8))], 1⟩ ?_ ?_
   ·
    refine q1 _ ?_
    refine stepC (r := .tup [.int .i64 r10.1, .bool r10.2]) (ArgsOk.dt ArgsOk.nil') (c_events_First hr10) ?_
    iterate 5 refine q1 _ ?_
    exact nR [0]
   exact And.intro rfl rfl
  ·
   replace h := iteF hc7 h
   refine NWp.condF (t := y5) rfl hc7 ?_
   have hh := Option.some.inj h
   subst hh
   refine NWp.norm (s0 := ⟨tab [(3, .loc 0 0 l3.length)], stab [(0, .lst false none (List.map (D.int .i64) l3))], 1⟩) (nr [0]) ?_
   refine NWp.exit ?_
   exact And.intro rfl rfl
 refine NWp.opsJ ⟨tab [(2, .loc 0 0 z12.length)], stab [(0, .lst false none (List.map (D.int .i64) z12))], 1⟩ ?_ ?_
 ·
  iterate 2 refine q1 _ ?_
  exact nR [0]
 have hh := Option.some.inj h
 subst hh
 refine NWp.ret ?_
 show FQ _ _ _ _
 exact FQ.mk1 (.inr rfl) (res_t (v := .loc 0 0 z12.length) rfl rfl) (RV.loc (xs := z12) (e := (D.int .i64)) rfl rfl trivial)

theorem c_ctrl_Ctrl_Hear {a0 : ctrl_Ctrl} {a1 : Int} {a2 : Int} {r : (Int × ctrl_Ctrl)} (h : ctrl_Ctrl_Hear a0 a1 a2 = some r) : SCall Tryd.prog 13 [.ptr 0 0 0, vi a1, .d (.int .u64 a2)] (stab [(0, .var [vl1 a0.n_.Events, vl0 a0.n_.Sets, .d (eL none (eL none (D.int .u16)) a0.n_.States), .d (.int .u64 a0.known), .loc 1 0 a0.peers.length, .loc 2 0 a0.order.length]), (1, .lst true (some 2) (List.map ectrl_peer a0.peers)), (2, .lst false none (List.map (D.int .i64) a0.order))]) 3 (vi r.1) (stab [(0, .var [vl1 r.2.n_.Events, vl0 r.2.n_.Sets, .d (eL none (eL none (D.int .u16)) r.2.n_.States), .d (.int .u64 r.2.known), .loc 1 0 r.2.peers.length, .loc 3 0 r.2.order.length]), (1, .lst true (some 2) (List.map ectrl_peer r.2.peers)), (3, .lst false none (List.map (D.int .i64) r.2.order))]) 4 := by
 refine SCall.introN (bl := [(0, .var [vl1 a0.n_.Events, vl0 a0.n_.Sets, .d (eL none (eL none (D.int .u16)) a0.n_.States), .d (.int .u64 a0.known), .loc 1 0 a0.peers.length, .loc 2 0 a0.order.length]), (1, .lst true (some 2) (List.map ectrl_peer a0.peers)), (2, .lst false none (List.map (D.int .i64) a0.order))]) (bl' := [(0, .var [vl1 r.2.n_.Events, vl0 r.2.n_.Sets, .d (eL none (eL none (D.int .u16)) r.2.n_.States), .d (.int .u64 r.2.known), .loc 1 0 r.2.peers.length, .loc 3 0 r.2.order.length]), (1, .lst true (some 2) (List.map ectrl_peer r.2.peers)), (3, .lst false none (List.map (D.int .i64) r.2.order))]) ok13 (show 3 ≤ 57 by decide) rfl ?_
 refine NWp.norm (s0 := ⟨tab [(0, .ptr 0 0 0), (1, vi a1), (2, .d (.int .u64 a2))], stab [(0, .var [vl1 a0.n_.Events, vl0 a0.n_.Sets, .d (eL none (eL none (D.int .u16)) a0.n_.States), .d (.int .u64 a0.known), .loc 1 0 a0.peers.length, .loc 2 0 a0.order.length]), (1, .lst true (some 2) (List.map ectrl_peer a0.peers)), (2, .lst false none (List.map (D.int .i64) a0.order))], 3⟩) (nr [0, 1, 2]) ?_
 refine NWp.opsJ ⟨tab [(0, .ptr 0 0 0), (1, vi a1), (2, .d (.int .u64 a2))], stab [(0, .var [vl1 a0.n_.Events, vl0 a0.n_.Sets, .d (eL none (eL none (D.int .u16)) a0.n_.States), .d (.int .u64 a0.known), .loc 1 0 a0.peers.length, .loc 2 0 a0.order.length]), (1, .lst true (some 2) (List.map ectrl_peer a0.peers)), (2, .lst false none (List.map (D.int .i64) a0.order))], 3⟩ ?_ ?_
 ·
  refine q1 _ ?_
  exact nR [0, 1, 2]
 refine NWp.seq ?_
 refine NWp.block ?_
 obtain ⟨r1, hr1, h⟩ := bindE h
 refine NWp.opsJ ⟨tab [(0, .ptr 0 0 0), (1, vi a1), (2, .d (.int .u64 a2)), (7, vb (!r1))], stab [(0, .var [vl1 a0.n_.Events, vl0 a0.n_.Sets, .d (eL none (eL none (D.int .u16)) a0.n_.States), .d (.int .u64 a0.known), .loc 1 0 a0.peers.length, .loc 2 0 a0.order.length]), (1, .lst true (some 2) (List.map ectrl_peer a0.peers)), (2, .lst false none (List.map (D.int .i64) a0.order))], 3⟩ ?_ ?_
 ·
  iterate 2 refine q1 _ ?_
  refine stepW (v := vb r1) (σ' := _) (n' := _) (PCall.borrow (c_ctrl_Ctrl_has hr1) rfl (ViewsB.c (viewB_var rfl (ViewsB.c (.d _) (ViewsB.c (.d _) (ViewsB.c (.d _) (ViewsB.c (.d _) (ViewsB.c (viewB_all (xs := a0.peers) (e := ectrl_peer) rfl rfl) (ViewsB.c (viewB_all (xs := a0.order) (e := (D.int .i64)) rfl rfl) ViewsB.nil0))))))) (ViewsB.c (.d _) ViewsB.nil0))) (Nat.le_refl _) ?_
  iterate 2 refine q1 _ ?_
  exact nR [0, 1, 2]
 by_cases hc2 : (!r1) = true
 ·
  replace h := iteT hc2 h
  refine NWp.condT (t := (!r1)) rfl hc2 ?_
  refine NWp.opsJ ⟨tab [(6, vi 1)], stab [(0, .var [vl1 a0.n_.Events, vl0 a0.n_.Sets, .d (eL none (eL none (D.int .u16)) a0.n_.States), .d (.int .u64 a0.known), .loc 1 0 a0.peers.length, .loc 2 0 a0.order.length]), (1, .lst true (some 2) (List.map ectrl_peer a0.peers)), (2, .lst false none (List.map (D.int .i64) a0.order))], 3⟩ ?_ ?_
  ·
   refine q1 _ ?_
   exact nR [0, 1, 2]
  have hh := Option.some.inj h
  subst hh
  refine NWp.norm (s0 := ⟨tab [(6, vi 1)], stab [(0, .var [vl1 a0.n_.Events, vl0 a0.n_.Sets, .d (eL none (eL none (D.int .u16)) a0.n_.States), .d (.int .u64 a0.known), .loc 1 0 a0.peers.length, .loc 3 0 a0.order.length]), (1, .lst true (some 2) (List.map ectrl_peer a0.peers)), (3, .lst false none (List.map (D.int .i64) a0.order))], 4⟩) (Norm.mkR [0, 1, 2, 2] [0, 1, 3] (by decide) rfl (by decide) (by decide) ⟨.d _, trivial⟩ ⟨⟨show 0 < 4 by decide, _, rfl, .vars ⟨.d _, .d _, .d _, .d _, .lc 1, .lc 3, trivial⟩⟩, ⟨show 1 < 4 by decide, _, rfl, .lst _ _ _⟩, ⟨show 3 < 4 by decide, _, rfl, .lst _ _ _⟩, trivial⟩) ?_
  refine NWp.ret ?_
  exact ⟨.inr rfl, _, rfl, rfl, AllS.sub ⟨rfl, rfl, rfl, trivial⟩, rfl⟩
 ·
  replace h := iteF hc2 h
  refine NWp.condF (t := (!r1)) rfl hc2 ?_
  obtain ⟨y6, hv, h⟩ := bindE h
  refine NWp.seqN ⟨tab [(0, .ptr 0 0 0), (1, vi a1), (2, .d (.int .u64 a2)), (12, vb y6)], stab [(0, .var [vl1 a0.n_.Events, vl0 a0.n_.Sets, .d (eL none (eL none (D.int .u16)) a0.n_.States), .d (.int .u64 a0.known), .loc 1 0 a0.peers.length, .loc 2 0 a0.order.length]), (1, .lst true (some 2) (List.map ectrl_peer a0.peers)), (2, .lst false none (List.map (D.int .i64) a0.order))], 3⟩ ?_ ?_
  ·
   replace h := hv
   obtain ⟨r3, hr3, h⟩ := bindE h
   refine NWp.opsJ ⟨tab [(0, .ptr 0 0 0), (1, vi a1), (2, .d (.int .u64 a2)), (12, vb (!r3))], stab [(0, .var [vl1 a0.n_.Events, vl0 a0.n_.Sets, .d (eL none (eL none (D.int .u16)) a0.n_.States), .d (.int .u64 a0.known), .loc 1 0 a0.peers.length, .loc 2 0 a0.order.length]), (1, .lst true (some 2) (List.map ectrl_peer a0.peers)), (2, .lst false none (List.map (D.int .i64) a0.order))], 3⟩ ?_ ?_
   ·
    iterate 2 refine q1 _ ?_
    refine stepW (v := vb r3) (σ' := _) (n' := _) (PCall.borrow (c_ctrl_Ctrl_fits hr3) rfl (ViewsB.c (viewB_var rfl (ViewsB.c (.d _) (ViewsB.c (.d _) (ViewsB.c (.d _) (ViewsB.c (.d _) (ViewsB.c (viewB_all (xs := a0.peers) (e := ectrl_peer) rfl rfl) (ViewsB.c (viewB_all (xs := a0.order) (e := (D.int .i64)) rfl rfl) ViewsB.nil0))))))) (ViewsB.c (.d _) ViewsB.nil0))) (Nat.le_refl _) ?_
    iterate 2 refine q1 _ ?_
    exact nR [0, 1, 2]
   by_cases hc4 : (!r3) = true
   ·
    replace h := iteT hc4 h
    refine NWp.condT (t := (!r3)) rfl hc4 ?_
    have hh := Option.some.inj h
    subst hh
    refine NWp.norm (s0 := ⟨tab [(0, .ptr 0 0 0), (1, vi a1), (2, .d (.int .u64 a2)), (12, vb (!r3))], stab [(0, .var [vl1 a0.n_.Events, vl0 a0.n_.Sets, .d (eL none (eL none (D.int .u16)) a0.n_.States), .d (.int .u64 a0.known), .loc 1 0 a0.peers.length, .loc 2 0 a0.order.length]), (1, .lst true (some 2) (List.map ectrl_peer a0.peers)), (2, .lst false none (List.map (D.int .i64) a0.order))], 3⟩) (nr [0, 1, 2]) ?_
    refine NWp.skip ?_
    exact And.intro rfl rfl
   ·
    replace h := iteF hc4 h
    refine NWp.condF (t := (!r3)) rfl hc4 ?_
    obtain ⟨r5, hr5, h⟩ := bindE h
    have hh := Option.some.inj h
    subst hh
    refine NWp.opsE ⟨tab [(0, .ptr 0 0 0), (1, vi a1), (2, .d (.int .u64 a2)), (12, vb (!r5))], stab [(0, .var [vl1 a0.n_.Events, vl0 a0.n_.Sets, .d (eL none (eL none (D.int .u16)) a0.n_.States), .d (.int .u64 a0.known), .loc 1 0 a0.peers.length, .loc 2 0 a0.order.length]), (1, .lst true (some 2) (List.map ectrl_peer a0.peers)), (2, .lst false none (List.map (D.int .i64) a0.order))], 3⟩ ?_ ?_
    ·
     iterate 7 refine q1 _ ?_
     refine stepW (v := vb r5) (σ' := _) (n' := _) (PCall.borrow (c_ctrl_Ctrl_fits hr5) rfl (ViewsB.c (viewB_var rfl (ViewsB.c (.d _) (ViewsB.c (.d _) (ViewsB.c (.d _) (ViewsB.c (.d _) (ViewsB.c (viewB_all (xs := a0.peers) (e := ectrl_peer) rfl rfl) (ViewsB.c (viewB_all (xs := a0.order) (e := (D.int .i64)) rfl rfl) ViewsB.nil0))))))) (ViewsB.c (.d _) ViewsB.nil0))) (Nat.le_refl _) ?_
     iterate 2 refine q1 _ ?_
     exact nR [0, 1, 2]
    exact And.intro rfl rfl
  by_cases hc8 : y6 = true
  ·
   replace h := iteT hc8 h
   refine NWp.condT (t := y6) rfl hc8 ?_
   refine NWp.opsJ ⟨tab [(6, vi 31)], stab [(0, .var [vl1 a0.n_.Events, vl0 a0.n_.Sets, .d (eL none (eL none (D.int .u16)) a0.n_.States), .d (.int .u64 a0.known), .loc 1 0 a0.peers.length, .loc 2 0 a0.order.length]), (1, .lst true (some 2) (List.map ectrl_peer a0.peers)), (2, .lst false none (List.map (D.int .i64) a0.order))], 3⟩ ?_ ?_
   ·
    refine q1 _ ?_
    exact nR [0, 1, 2]
   have hh := Option.some.inj h
   subst hh
   refine NWp.norm (s0 := ⟨tab [(6, vi 31)], stab [(0, .var [vl1 a0.n_.Events, vl0 a0.n_.Sets, .d (eL none (eL none (D.int .u16)) a0.n_.States), .d (.int .u64 a0.known), .loc 1 0 a0.peers.length, .loc 3 0 a0.order.length]), (1, .lst true (some 2) (List.map ectrl_peer a0.peers)), (3, .lst false none (List.map (D.int .i64) a0.order))], 4⟩) (Norm.mkR [0, 1, 2, 2] [0, 1, 3] (by decide) rfl (by decide) (by decide) ⟨.d _, trivial⟩ ⟨⟨show 0 < 4 by decide, _, rfl, .vars ⟨.d _, .d _, .d _, .d _, .lc 1, .lc 3, trivial⟩⟩, ⟨show 1 < 4 by decide, _, rfl, .lst _ _ _⟩, ⟨show 3 < 4 by decide, _, rfl, .lst _ _ _⟩, trivial⟩) ?_
   refine NWp.ret ?_
   exact ⟨.inr rfl, _, rfl, rfl, AllS.sub ⟨rfl, rfl, rfl, trivial⟩, rfl⟩
  ·
   replace h := iteF hc8 h
   refine NWp.condF (t := y6) rfl hc8 ?_
   refine NWp.skip ?_
   obtain ⟨r9, hr9, h⟩ := bindE h
   obtain ⟨l10, hl10, h⟩ := bindE h
   refine NWp.opsJ ⟨tab [(0, .ptr 0 0 0), (1, vi a1), (2, .d (.int .u64 a2))], stab [(0, .var [vl1 a0.n_.Events, vl0 a0.n_.Sets, .d (eL none (eL none (D.int .u16)) a0.n_.States), .d (.int .u64 a0.known), .loc 1 0 a0.peers.length, .loc 3 0 l10.length]), (1, .lst true (some 2) (List.map ectrl_peer a0.peers)), (3, .lst false none (List.map (D.int .i64) l10))], 4⟩ ?_ ?_
   ·
    iterate 11 refine q1 _ ?_
    refine stepC (r := eL none (D.int .i64) r9) (ArgsOk.dt ArgsOk.nil') (c_events_List hr9) ?_
    refine step (v := .loc 3 0 l10.length) (σ' := (upd (upd (stab [(0, .var [vl1 a0.n_.Events, vl0 a0.n_.Sets, .d (eL none (eL none (D.int .u16)) a0.n_.States), .d (.int .u64 a0.known), .loc 1 0 a0.peers.length, .loc 2 0 a0.order.length]), (1, .lst true (some 2) (List.map ectrl_peer a0.peers)), (2, .lst false none (List.map (D.int .i64) a0.order))]) 2 none) 3 (some (.lst false none (List.map (D.int .i64) l10))))) (n' := 4) (st_app (xs := a0.order) (ys := r9) (e := (D.int .i64)) hl10 rfl rfl rfl (src_v (xs := r9) (e := (D.int .i64)) rfl)) ?_
    iterate 2 refine q1 _ ?_
    refine step (v := V.undef) (σ' := (upd (upd (upd (stab [(0, .var [vl1 a0.n_.Events, vl0 a0.n_.Sets, .d (eL none (eL none (D.int .u16)) a0.n_.States), .d (.int .u64 a0.known), .loc 1 0 a0.peers.length, .loc 2 0 a0.order.length]), (1, .lst true (some 2) (List.map ectrl_peer a0.peers)), (2, .lst false none (List.map (D.int .i64) a0.order))]) 2 none) 3 (some (.lst false none (List.map (D.int .i64) l10)))) 0 (some (.var [vl1 a0.n_.Events, vl0 a0.n_.Sets, .d (eL none (eL none (D.int .u16)) a0.n_.States), .d (.int .u64 a0.known), .loc 1 0 a0.peers.length, .loc 3 0 l10.length])))) (n' := 4) rfl ?_
    exact nR [0, 1, 2, 3]
   refine NWp.opsJ ⟨tab [(0, .ptr 0 0 0), (1, vi a1), (2, .d (.int .u64 a2))], stab [(0, .var [vl1 a0.n_.Events, vl0 a0.n_.Sets, .d (eL none (eL none (D.int .u16)) a0.n_.States), .d (.int .u64 (orI .u64 a0.known a2)), .loc 1 0 a0.peers.length, .loc 3 0 l10.length]), (1, .lst true (some 2) (List.map ectrl_peer a0.peers)), (3, .lst false none (List.map (D.int .i64) l10))], 4⟩ ?_ ?_
   ·
    iterate 8 refine q1 _ ?_
    refine step (v := V.undef) (σ' := (upd (stab [(0, .var [vl1 a0.n_.Events, vl0 a0.n_.Sets, .d (eL none (eL none (D.int .u16)) a0.n_.States), .d (.int .u64 a0.known), .loc 1 0 a0.peers.length, .loc 3 0 l10.length]), (1, .lst true (some 2) (List.map ectrl_peer a0.peers)), (3, .lst false none (List.map (D.int .i64) l10))]) 0 (some (.var [vl1 a0.n_.Events, vl0 a0.n_.Sets, .d (eL none (eL none (D.int .u16)) a0.n_.States), .d (.int .u64 (orI .u64 a0.known a2)), .loc 1 0 a0.peers.length, .loc 3 0 l10.length])))) (n' := 4) rfl ?_
    exact nR [0, 1, 2, 3]
   obtain ⟨x11, hx11, h⟩ := bindE h
   obtain ⟨l12, hl12, h⟩ := bindE h
   refine NWp.opsJ ⟨tab [], stab [(0, .var [vl1 a0.n_.Events, vl0 a0.n_.Sets, .d (eL none (eL none (D.int .u16)) a0.n_.States), .d (.int .u64 (orI .u64 a0.known a2)), .loc 1 0 l12.length, .loc 3 0 l10.length]), (1, .lst true (some 2) (List.map ectrl_peer l12)), (3, .lst false none (List.map (D.int .i64) l10))], 4⟩ ?_ ?_
   ·
    iterate 6 refine q1 _ ?_
    refine step (v := .ptr 1 a1.toNat 0) (st_iaddrL (xs := a0.peers) (e := ectrl_peer) hx11 rfl rfl rfl rfl) ?_
    refine q1 _ ?_
    refine step (v := V.undef) (σ' := (upd (stab [(0, .var [vl1 a0.n_.Events, vl0 a0.n_.Sets, .d (eL none (eL none (D.int .u16)) a0.n_.States), .d (.int .u64 (orI .u64 a0.known a2)), .loc 1 0 a0.peers.length, .loc 3 0 l10.length]), (1, .lst true (some 2) (List.map ectrl_peer a0.peers)), (3, .lst false none (List.map (D.int .i64) l10))]) 1 (some (.lst true (some 2) (List.map ectrl_peer l12))))) (n' := 4) (st_storeL (e := ectrl_peer) hx11 hl12 rfl rfl rfl rfl) ?_
    exact RunOps.nil' (nm [0, 1, 2, 3] trivial ⟨⟨show 0 < 4 by decide, _, rfl, .vars ⟨.d _, .d _, .d _, .d _, .le (id := 1) (gput_len hl12).symm (show 1 < 4 by decide), .lc 3, trivial⟩⟩, ⟨show 1 < 4 by decide, _, rfl, .lst _ _ _⟩, ⟨show 3 < 4 by decide, _, rfl, .lst _ _ _⟩, trivial⟩)
   refine NWp.opsJ ⟨tab [(6, vi 0)], stab [(0, .var [vl1 a0.n_.Events, vl0 a0.n_.Sets, .d (eL none (eL none (D.int .u16)) a0.n_.States), .d (.int .u64 (orI .u64 a0.known a2)), .loc 1 0 l12.length, .loc 3 0 l10.length]), (1, .lst true (some 2) (List.map ectrl_peer l12)), (3, .lst false none (List.map (D.int .i64) l10))], 4⟩ ?_ ?_
   ·
    refine q1 _ ?_
    exact nR [0, 1, 2, 3]
   have hh := Option.some.inj h
   subst hh
   refine NWp.ret ?_
   exact ⟨.inr rfl, _, rfl, rfl, AllS.sub ⟨rfl, rfl, rfl, trivial⟩, rfl⟩

theorem c_ctrl_Ctrl_Tell {a0 : ctrl_Ctrl} {a1 : Int} {r : (Int × Int × ctrl_Ctrl)} (h : ctrl_Ctrl_Tell a0 a1 = some r) : SCall Tryd.prog 11 [.ptr 0 0 0, vi a1] (stab [(0, .var [vl1 a0.n_.Events, vl0 a0.n_.Sets, .d (eL none (eL none (D.int .u16)) a0.n_.States), .d (.int .u64 a0.known), .loc 1 0 a0.peers.length, .loc 2 0 a0.order.length]), (1, .lst true (some 2) (List.map ectrl_peer a0.peers)), (2, .lst false none (List.map (D.int .i64) a0.order))]) 3 (.d (.tup [.int .u64 r.1, .int .i64 r.2.1])) (stab [(0, .var [vl1 r.2.2.n_.Events, vl0 r.2.2.n_.Sets, .d (eL none (eL none (D.int .u16)) r.2.2.n_.States), .d (.int .u64 r.2.2.known), .loc 1 0 r.2.2.peers.length, .loc 2 0 r.2.2.order.length]), (1, .lst true (some 2) (List.map ectrl_peer r.2.2.peers)), (2, .lst false none (List.map (D.int .i64) r.2.2.order))]) 3 := by
 refine SCall.introN (bl := [(0, .var [vl1 a0.n_.Events, vl0 a0.n_.Sets, .d (eL none (eL none (D.int .u16)) a0.n_.States), .d (.int .u64 a0.known), .loc 1 0 a0.peers.length, .loc 2 0 a0.order.length]), (1, .lst true (some 2) (List.map ectrl_peer a0.peers)), (2, .lst false none (List.map (D.int .i64) a0.order))]) (bl' := [(0, .var [vl1 r.2.2.n_.Events, vl0 r.2.2.n_.Sets, .d (eL none (eL none (D.int .u16)) r.2.2.n_.States), .d (.int .u64 r.2.2.known), .loc 1 0 r.2.2.peers.length, .loc 2 0 r.2.2.order.length]), (1, .lst true (some 2) (List.map ectrl_peer r.2.2.peers)), (2, .lst false none (List.map (D.int .i64) r.2.2.order))]) ok11 (show 2 ≤ 25 by decide) rfl ?_
 refine NWp.norm (s0 := ⟨tab [(0, .ptr 0 0 0), (1, vi a1)], stab [(0, .var [vl1 a0.n_.Events, vl0 a0.n_.Sets, .d (eL none (eL none (D.int .u16)) a0.n_.States), .d (.int .u64 a0.known), .loc 1 0 a0.peers.length, .loc 2 0 a0.order.length]), (1, .lst true (some 2) (List.map ectrl_peer a0.peers)), (2, .lst false none (List.map (D.int .i64) a0.order))], 3⟩) (nr [0, 1, 2]) ?_
 refine NWp.opsJ ⟨tab [(0, .ptr 0 0 0), (1, vi a1)], stab [(0, .var [vl1 a0.n_.Events, vl0 a0.n_.Sets, .d (eL none (eL none (D.int .u16)) a0.n_.States), .d (.int .u64 a0.known), .loc 1 0 a0.peers.length, .loc 2 0 a0.order.length]), (1, .lst true (some 2) (List.map ectrl_peer a0.peers)), (2, .lst false none (List.map (D.int .i64) a0.order))], 3⟩ ?_ ?_
 ·
  iterate 2 refine q1 _ ?_
  exact nR [0, 1, 2]
 refine NWp.seq ?_
 obtain ⟨r1, hr1, h⟩ := bindE h
 refine NWp.opsJ ⟨tab [(0, .ptr 0 0 0), (1, vi a1), (9, vb (!r1))], stab [(0, .var [vl1 a0.n_.Events, vl0 a0.n_.Sets, .d (eL none (eL none (D.int .u16)) a0.n_.States), .d (.int .u64 a0.known), .loc 1 0 a0.peers.length, .loc 2 0 a0.order.length]), (1, .lst true (some 2) (List.map ectrl_peer a0.peers)), (2, .lst false none (List.map (D.int .i64) a0.order))], 3⟩ ?_ ?_
 ·
  iterate 2 refine q1 _ ?_
  refine stepW (v := vb r1) (σ' := _) (n' := _) (PCall.borrow (c_ctrl_Ctrl_has hr1) rfl (ViewsB.c (viewB_var rfl (ViewsB.c (.d _) (ViewsB.c (.d _) (ViewsB.c (.d _) (ViewsB.c (.d _) (ViewsB.c (viewB_all (xs := a0.peers) (e := ectrl_peer) rfl rfl) (ViewsB.c (viewB_all (xs := a0.order) (e := (D.int .i64)) rfl rfl) ViewsB.nil0))))))) (ViewsB.c (.d _) ViewsB.nil0))) (Nat.le_refl _) ?_
  refine q1 _ ?_
  exact nR [0, 1, 2]
 by_cases hc2 : (!r1) = true
 ·
  replace h := iteT hc2 h
  refine NWp.condT (t := (!r1)) rfl hc2 ?_
  refine NWp.opsJ ⟨tab [(4, .d (.int .u64 0)), (5, vi 1)], stab [(0, .var [vl1 a0.n_.Events, vl0 a0.n_.Sets, .d (eL none (eL none (D.int .u16)) a0.n_.States), .d (.int .u64 a0.known), .loc 1 0 a0.peers.length, .loc 2 0 a0.order.length]), (1, .lst true (some 2) (List.map ectrl_peer a0.peers)), (2, .lst false none (List.map (D.int .i64) a0.order))], 3⟩ ?_ ?_
  ·
   iterate 2 refine q1 _ ?_
   exact nR [0, 1, 2]
  have hh := Option.some.inj h
  subst hh
  refine NWp.ret ?_
  exact ⟨.inr rfl, _, rfl, rfl, AllS.sub ⟨rfl, rfl, rfl, trivial⟩, rfl⟩
 ·
  replace h := iteF hc2 h
  refine NWp.condF (t := (!r1)) rfl hc2 ?_
  refine NWp.skip ?_
  obtain ⟨x3, hx3, h⟩ := bindE h
  obtain ⟨l4, hl4, h⟩ := bindE h
  refine NWp.opsJ ⟨tab [(0, .ptr 0 0 0)], stab [(0, .var [vl1 a0.n_.Events, vl0 a0.n_.Sets, .d (eL none (eL none (D.int .u16)) a0.n_.States), .d (.int .u64 a0.known), .loc 1 0 l4.length, .loc 2 0 a0.order.length]), (1, .lst true (some 2) (List.map ectrl_peer l4)), (2, .lst false none (List.map (D.int .i64) a0.order))], 3⟩ ?_ ?_
  ·
   iterate 9 refine q1 _ ?_
   refine step (v := .ptr 1 a1.toNat 0) (st_iaddrL (xs := a0.peers) (e := ectrl_peer) hx3 rfl rfl rfl rfl) ?_
   refine q1 _ ?_
   refine step (v := V.undef) (σ' := (upd (stab [(0, .var [vl1 a0.n_.Events, vl0 a0.n_.Sets, .d (eL none (eL none (D.int .u16)) a0.n_.States), .d (.int .u64 a0.known), .loc 1 0 a0.peers.length, .loc 2 0 a0.order.length]), (1, .lst true (some 2) (List.map ectrl_peer a0.peers)), (2, .lst false none (List.map (D.int .i64) a0.order))]) 1 (some (.lst true (some 2) (List.map ectrl_peer l4))))) (n' := 3) (st_storeL (e := ectrl_peer) hx3 hl4 rfl rfl rfl rfl) ?_
   exact RunOps.nil' (nm [0, 1, 2] ⟨.pt 0, trivial⟩ ⟨⟨show 0 < 3 by decide, _, rfl, .vars ⟨.d _, .d _, .d _, .d _, .le (id := 1) (gput_len hl4).symm (show 1 < 3 by decide), .lc 2, trivial⟩⟩, ⟨show 1 < 3 by decide, _, rfl, .lst _ _ _⟩, ⟨show 2 < 3 by decide, _, rfl, .lst _ _ _⟩, trivial⟩)
  refine NWp.opsJ ⟨tab [(4, .d (.int .u64 a0.known)), (5, vi 0)], stab [(0, .var [vl1 a0.n_.Events, vl0 a0.n_.Sets, .d (eL none (eL none (D.int .u16)) a0.n_.States), .d (.int .u64 a0.known), .loc 1 0 l4.length, .loc 2 0 a0.order.length]), (1, .lst true (some 2) (List.map ectrl_peer l4)), (2, .lst false none (List.map (D.int .i64) a0.order))], 3⟩ ?_ ?_
  ·
   iterate 6 refine q1 _ ?_
   exact nR [0, 1, 2]
  have hh := Option.some.inj h
  subst hh
  refine NWp.ret ?_
  exact ⟨.inr rfl, _, rfl, rfl, AllS.sub ⟨rfl, rfl, rfl, trivial⟩, rfl⟩

theorem c_ctrl_Ctrl_Known {a0 : ctrl_Ctrl} {r : Int} (h : ctrl_Ctrl_Known a0 = some r) : PCall Tryd.prog 15 [.cptr (some 6) (ectrl_Ctrl a0) 0] (.int .u64 r) := by
 refine PCall.introN ok15 (show 1 ≤ 9 by decide) ?_
 refine NWp.norm (s0 := ⟨tab [(0, vp6 a0)], stab [], 0⟩) (nr []) ?_
 refine NWp.opsJ ⟨tab [(0, vp6 a0)], stab [], 0⟩ ?_ ?_
 ·
  refine q1 _ ?_
  exact nR []
 refine NWp.seq ?_
 refine NWp.opsJ ⟨tab [(0, vp6 a0), (4, vb false)], stab [], 0⟩ ?_ ?_
 ·
  iterate 2 refine q1 _ ?_
  exact nR []
 refine NWp.condF (t := false) rfl (by decide) ?_
 refine NWp.skip ?_
 refine NWp.opsJ ⟨tab [(2, .d (.int .u64 a0.known))], stab [], 0⟩ ?_ ?_
 ·
  iterate 5 refine q1 _ ?_
  exact nR []
 have hh := Option.some.inj h
 subst hh
 refine NWp.ret ?_
 show FQ _ _ _ _
 exact FQ.mk1 (.inr rfl) (res_t (v := .d (.int .u64 a0.known)) rfl rfl) (RV.d trivial)

theorem c_ctrl_Ctrl_Tag {a0 : ctrl_Ctrl} {r : Int} (h : ctrl_Ctrl_Tag a0 = some r) : PCall Tryd.prog 16 [.cptr (some 6) (ectrl_Ctrl a0) 0] (.int .u16 r) := by
 refine PCall.introN ok16 (show 1 ≤ 20 by decide) ?_
 refine NWp.norm (s0 := ⟨tab [(0, vp6 a0)], stab [], 0⟩) (nr []) ?_
 refine NWp.opsJ ⟨tab [(0, vp6 a0)], stab [], 0⟩ ?_ ?_
 ·
  refine q1 _ ?_
  exact nR []
 refine NWp.seq ?_
 refine NWp.opsJ ⟨tab [(0, vp6 a0), (6, vb false)], stab [], 0⟩ ?_ ?_
 ·
  iterate 2 refine q1 _ ?_
  exact nR []
 refine NWp.condF (t := false) rfl (by decide) ?_
 refine NWp.skip ?_
 obtain ⟨r1, hr1, h⟩ := bindE h
 refine NWp.opsJ ⟨tab [(3, vh r1.1)], stab [], 0⟩ ?_ ?_
 ·
  iterate 8 refine q1 _ ?_
  refine stepC (r := .tup [.int .u16 r1.1, .bool r1.2]) (ArgsOk.dt (ArgsOk.dt ArgsOk.nil')) (c_nes_Tag hr1) ?_
  iterate 5 refine q1 _ ?_
  exact nR []
 refine NWp.opsJ ⟨tab [(2, vh r1.1)], stab [], 0⟩ ?_ ?_
 ·
  iterate 2 refine q1 _ ?_
  exact nR []
 have hh := Option.some.inj h
 subst hh
 refine NWp.ret ?_
 show FQ _ _ _ _
 exact FQ.mk1 (.inr rfl) (res_t (v := vh r1.1) rfl rfl) (RV.d trivial)

theorem c_slices_Clone_int {a0 : List Int} {r : List Int} (h : slices_Clone_int a0 = some r) : SCall Tryd.prog 29 [.d (.vec none (List.map (D.int .i64) a0))] (stab []) 0 (.loc 0 0 r.length) (stab [(0, .lst true none (List.map (D.int .i64) r))]) 1 := by
 cases a0 with
 | nil =>
  refine SCall.empty ?_ ?_
  ·
   have h : some ([] : List Int) = some r := by simpa [slices_Clone_int, gapp] using h
   refine SCall.introN (bl := []) (bl' := [(0, .lst true none (List.map (D.int .i64) r))]) ok29 (show 1 ≤ 8 by decide) rfl ?_
   refine NWp.norm (s0 := ⟨tab [(0, .d (.nils))], stab [], 0⟩) (nr []) ?_
   refine NWp.opsJ ⟨tab [(0, .d (.nils))], stab [], 0⟩ ?_ ?_
   ·
    refine q1 _ ?_
    exact nR []
   refine NWp.seq ?_
   refine NWp.opsJ ⟨tab [(0, .d (.nils)), (4, vb true)], stab [], 0⟩ ?_ ?_
   ·
    iterate 2 refine q1 _ ?_
    exact nR []
   refine NWp.condT (t := true) rfl rfl ?_
   refine NWp.opsJ ⟨tab [(2, .d (.nils))], stab [], 0⟩ ?_ ?_
   ·
    refine q1 _ ?_
    exact nR []
   have hh := Option.some.inj h
   subst hh
   refine NWp.norm (s0 := ⟨tab [(2, .loc 0 0 (([] : List Int).length))], stab [(0, .lst true none (List.map (D.int .i64) ([] : List Int)))], 1⟩) (Norm.trans (s2 := ⟨tab [(2, .loc 0 0 (([] : List Int).length))], stab [(0, .lst true none (List.map (D.int .i64) ([] : List Int)))], 1⟩) (Norm.nil1 2 true none rfl) (nr [0])) ?_
   refine NWp.ret ?_
   exact ⟨.inr rfl, _, rfl, rfl, AllS.sub ⟨rfl, trivial⟩, rfl⟩
  ·
   refine SCall.introN (bl := []) (bl' := [(0, .lst true none (List.map (D.int .i64) r))]) ok29 (show 1 ≤ 8 by decide) rfl ?_
   refine NWp.norm (s0 := ⟨tab [(0, .mapr 0)], stab [], 0⟩) (nm [] ⟨.mp _, trivial⟩ trivial) ?_
   refine NWp.opsJ ⟨tab [(0, .mapr 0)], stab [], 0⟩ ?_ ?_
   ·
    refine q1 _ ?_
    exact RunOps.nil' (nm [] ⟨.mp _, trivial⟩ trivial)
   refine NWp.seq ?_
   refine NWp.opsJ ⟨tab [(0, vl2 ([] : List Int)), (4, vb false)], stab [], 0⟩ ?_ ?_
   ·
    iterate 2 refine q1 _ ?_
    exact RunOps.nil' (nm [] ⟨.nne _ _, .d _, trivial⟩ trivial)
   refine NWp.condF (t := false) rfl (by decide) ?_
   refine NWp.skip ?_
   obtain ⟨l1, hl1, h⟩ := bindE h
   refine NWp.opsJ ⟨tab [(2, .loc 0 0 l1.length)], stab [(0, .lst true none (List.map (D.int .i64) l1))], 1⟩ ?_ ?_
   ·
    refine step (v := .loc 0 0 (([] : List Int).length)) (σ' := (upd (stab []) 0 (some (.lst true none (List.map (D.int .i64) ([] : List Int)))))) (n' := 1) rfl ?_
    refine q1 _ ?_
    refine step (v := .loc 1 0 l1.length) (σ' := (upd (upd (upd (stab []) 0 (some (.lst true none (List.map (D.int .i64) ([] : List Int))))) 0 none) 1 (some (.lst true none (List.map (D.int .i64) l1))))) (n' := 2) (st_app (xs := ([] : List Int)) (ys := ([] : List Int)) (e := (D.int .i64)) hl1 rfl rfl rfl (src_v (xs := ([] : List Int)) (e := (D.int .i64)) rfl)) ?_
    refine q1 _ ?_
    exact nR [1]
   have hh := Option.some.inj h
   subst hh
   refine NWp.ret ?_
   exact ⟨.inr rfl, _, rfl, rfl, AllS.sub ⟨rfl, trivial⟩, rfl⟩
 | cons x xs =>
  refine SCall.introN (bl := []) (bl' := [(0, .lst true none (List.map (D.int .i64) r))]) ok29 (show 1 ≤ 8 by decide) rfl ?_
  refine NWp.norm (s0 := ⟨tab [(0, vl2 (x :: xs))], stab [], 0⟩) (nr []) ?_
  refine NWp.opsJ ⟨tab [(0, vl2 (x :: xs))], stab [], 0⟩ ?_ ?_
  ·
   refine q1 _ ?_
   exact nR []
  refine NWp.seq ?_
  refine NWp.opsJ ⟨tab [(0, vl2 (x :: xs)), (4, vb false)], stab [], 0⟩ ?_ ?_
  ·
   iterate 2 refine q1 _ ?_
   exact nR []
  refine NWp.condF (t := false) rfl (by decide) ?_
  refine NWp.skip ?_
  obtain ⟨l1, hl1, h⟩ := bindE h
  refine NWp.opsJ ⟨tab [(2, .loc 0 0 l1.length)], stab [(0, .lst true none (List.map (D.int .i64) l1))], 1⟩ ?_ ?_
  ·
   refine step (v := .loc 0 0 (([] : List Int).length)) (σ' := (upd (stab []) 0 (some (.lst true none (List.map (D.int .i64) ([] : List Int)))))) (n' := 1) rfl ?_
   refine q1 _ ?_
   refine step (v := .loc 1 0 l1.length) (σ' := (upd (upd (upd (stab []) 0 (some (.lst true none (List.map (D.int .i64) ([] : List Int))))) 0 none) 1 (some (.lst true none (List.map (D.int .i64) l1))))) (n' := 2) (st_app (xs := ([] : List Int)) (ys := (x :: xs)) (e := (D.int .i64)) hl1 rfl rfl rfl (src_v (xs := (x :: xs)) (e := (D.int .i64)) rfl)) ?_
   refine q1 _ ?_
   exact nR [1]
  have hh := Option.some.inj h
  subst hh
  refine NWp.ret ?_
  exact ⟨.inr rfl, _, rfl, rfl, AllS.sub ⟨rfl, trivial⟩, rfl⟩

theorem c_ctrl_Ctrl_Order {a0 : ctrl_Ctrl} {r : ((List Int) × ctrl_Ctrl)} (h : ctrl_Ctrl_Order a0 = some r) : SCall Tryd.prog 14 [.ptr 0 0 0] (stab [(0, .var [vl1 a0.n_.Events, vl0 a0.n_.Sets, .d (eL none (eL none (D.int .u16)) a0.n_.States), .d (.int .u64 a0.known), .loc 1 0 a0.peers.length, .loc 2 0 a0.order.length]), (1, .lst true (some 2) (List.map ectrl_peer a0.peers)), (2, .lst false none (List.map (D.int .i64) a0.order))]) 3 (.loc 3 0 r.1.length) (stab [(0, .var [vl1 r.2.n_.Events, vl0 r.2.n_.Sets, .d (eL none (eL none (D.int .u16)) r.2.n_.States), .d (.int .u64 r.2.known), .loc 1 0 r.2.peers.length, .loc 2 0 r.2.order.length]), (1, .lst true (some 2) (List.map ectrl_peer r.2.peers)), (2, .lst false none (List.map (D.int .i64) r.2.order)), (3, .lst true none (List.map (D.int .i64) r.1))]) 4 := by
 refine SCall.introN (bl := [(0, .var [vl1 a0.n_.Events, vl0 a0.n_.Sets, .d (eL none (eL none (D.int .u16)) a0.n_.States), .d (.int .u64 a0.known), .loc 1 0 a0.peers.length, .loc 2 0 a0.order.length]), (1, .lst true (some 2) (List.map ectrl_peer a0.peers)), (2, .lst false none (List.map (D.int .i64) a0.order))]) (bl' := [(0, .var [vl1 r.2.n_.Events, vl0 r.2.n_.Sets, .d (eL none (eL none (D.int .u16)) r.2.n_.States), .d (.int .u64 r.2.known), .loc 1 0 r.2.peers.length, .loc 2 0 r.2.order.length]), (1, .lst true (some 2) (List.map ectrl_peer r.2.peers)), (2, .lst false none (List.map (D.int .i64) r.2.order)), (3, .lst true none (List.map (D.int .i64) r.1))]) ok14 (show 1 ≤ 10 by decide) rfl ?_
 refine NWp.norm (s0 := ⟨tab [(0, .ptr 0 0 0)], stab [(0, .var [vl1 a0.n_.Events, vl0 a0.n_.Sets, .d (eL none (eL none (D.int .u16)) a0.n_.States), .d (.int .u64 a0.known), .loc 1 0 a0.peers.length, .loc 2 0 a0.order.length]), (1, .lst true (some 2) (List.map ectrl_peer a0.peers)), (2, .lst false none (List.map (D.int .i64) a0.order))], 3⟩) (nr [0, 1, 2]) ?_
 refine NWp.opsJ ⟨tab [(0, .ptr 0 0 0)], stab [(0, .var [vl1 a0.n_.Events, vl0 a0.n_.Sets, .d (eL none (eL none (D.int .u16)) a0.n_.States), .d (.int .u64 a0.known), .loc 1 0 a0.peers.length, .loc 2 0 a0.order.length]), (1, .lst true (some 2) (List.map ectrl_peer a0.peers)), (2, .lst false none (List.map (D.int .i64) a0.order))], 3⟩ ?_ ?_
 ·
  refine q1 _ ?_
  exact nR [0, 1, 2]
 refine NWp.seq ?_
 refine NWp.opsJ ⟨tab [(0, .ptr 0 0 0), (4, vb false)], stab [(0, .var [vl1 a0.n_.Events, vl0 a0.n_.Sets, .d (eL none (eL none (D.int .u16)) a0.n_.States), .d (.int .u64 a0.known), .loc 1 0 a0.peers.length, .loc 2 0 a0.order.length]), (1, .lst true (some 2) (List.map ectrl_peer a0.peers)), (2, .lst false none (List.map (D.int .i64) a0.order))], 3⟩ ?_ ?_
 ·
  iterate 2 refine q1 _ ?_
  exact nR [0, 1, 2]
 refine NWp.condF (t := false) rfl (by decide) ?_
 refine NWp.skip ?_
 obtain ⟨r1, hr1, h⟩ := bindE h
 refine NWp.opsJ ⟨tab [(2, .loc 3 0 r1.length)], stab [(0, .var [vl1 a0.n_.Events, vl0 a0.n_.Sets, .d (eL none (eL none (D.int .u16)) a0.n_.States), .d (.int .u64 a0.known), .loc 1 0 a0.peers.length, .loc 2 0 a0.order.length]), (1, .lst true (some 2) (List.map ectrl_peer a0.peers)), (2, .lst false none (List.map (D.int .i64) a0.order)), (3, .lst true none (List.map (D.int .i64) r1))], 4⟩ ?_ ?_
 ·
  iterate 4 refine q1 _ ?_
  refine stepW (v := .loc 3 0 r1.length) (σ' := (upd (stab [(0, .var [vl1 a0.n_.Events, vl0 a0.n_.Sets, .d (eL none (eL none (D.int .u16)) a0.n_.States), .d (.int .u64 a0.known), .loc 1 0 a0.peers.length, .loc 2 0 a0.order.length]), (1, .lst true (some 2) (List.map ectrl_peer a0.peers)), (2, .lst false none (List.map (D.int .i64) a0.order))]) 3 (some (.lst true none (List.map (D.int .i64) r1))))) (n' := 4) (SCall.sees (SCall.lift [] (c_slices_Clone_int hr1) (show 0 ≤ 1 by decide) (by decide) (show ∀ i ∈ [], i < 3 by decide) (dom_c (show 0 < 1 by decide) dom_n) (VNs.c (.d _) VNs.nil0) SN.nil0) ⟨.inr ⟨_, (va_l (xs := a0.order) (e := (D.int .i64)) rfl rfl), rfl⟩, trivial⟩) (show 3 ≤ 4 by decide) ?_
  refine q1 _ ?_
  exact nR [0, 1, 2, 3]
 have hh := Option.some.inj h
 subst hh
 refine NWp.ret ?_
 exact ⟨.inr rfl, _, rfl, rfl, AllS.sub ⟨rfl, rfl, rfl, rfl, trivial⟩, rfl⟩

theorem c_law18_awake  {r : Bool} (h : law18_awake  = some r) : PCall Tryd.prog 5 [] (.bool r) := by
 refine PCall.introN ok5 (show 0 ≤ 53 by decide) ?_
 refine NWp.norm (s0 := ⟨tab [], stab [], 0⟩) (nr []) ?_
 refine NWp.opsJ ⟨tab [], stab [], 0⟩ ?_ ?_
 ·
  refine q1 _ ?_
  exact nR []
 obtain ⟨r1, hr1, h⟩ := bindE h
 refine NWp.opsJ ⟨tab [(1, .ptr 0 0 0)], stab [(0, .var [vl1 r1.n_.Events, vl0 r1.n_.Sets, .d (eL none (eL none (D.int .u16)) r1.n_.States), .d (.int .u64 r1.known), .loc 1 0 r1.peers.length, .loc 2 0 r1.order.length]), (1, .lst true (some 2) (List.map ectrl_peer r1.peers)), (2, .lst false none (List.map (D.int .i64) r1.order))], 3⟩ ?_ ?_
 ·
  refine step (v := .d (eapi_Event (api_Event.mk 0 0))) (st_build (ds := [.int .i64 0, .int .i64 0]) rfl) ?_
  iterate 5 refine q1 _ ?_
  refine step (v := vs1 (api_Nes.mk ([(api_Event.mk 0 0)] : List api_Event) ([0, 1] : List Int) ([([0] : List Int), ([1] : List Int)] : List (List Int)))) (st_build (ds := [eL (some 2) eapi_Event ([(api_Event.mk 0 0)] : List api_Event), eL none (D.int .u64) ([0, 1] : List Int), eL none (eL none (D.int .u16)) ([([0] : List Int), ([1] : List Int)] : List (List Int))]) rfl) ?_
  refine stepW (v := .ptr 0 0 0) (σ' := (upd (upd (upd (stab []) 2 (some (.lst false none (List.map (D.int .i64) r1.order)))) 1 (some (.lst true (some 2) (List.map ectrl_peer r1.peers)))) 0 (some (.var [vl1 r1.n_.Events, vl0 r1.n_.Sets, .d (eL none (eL none (D.int .u16)) r1.n_.States), .d (.int .u64 r1.known), .loc 1 0 r1.peers.length, .loc 2 0 r1.order.length])))) (n' := 3) (SCall.lift [] (c_ctrl_New hr1) (show 0 ≤ 3 by decide) (by decide) (show ∀ i ∈ [], i < 0 by decide) (dom_c (show 0 < 3 by decide) (dom_c (show 1 < 3 by decide) (dom_c (show 2 < 3 by decide) dom_n))) (VNs.c (.d _) (VNs.c (.d _) VNs.nil0)) SN.nil0) (show 0 ≤ 3 by decide) ?_
  refine q1 _ ?_
  exact nR [0, 1, 2]
 obtain ⟨r2, hr2, h⟩ := bindE h
 obtain ⟨r3, hr3, h⟩ := bindE h
 refine NWp.opsJ ⟨tab [(1, .ptr 0 0 0), (2, vi r2.1), (3, vi r3.1)], stab [(0, .var [vl1 r3.2.n_.Events, vl0 r3.2.n_.Sets, .d (eL none (eL none (D.int .u16)) r3.2.n_.States), .d (.int .u64 r3.2.known), .loc 1 0 r3.2.peers.length, .loc 2 0 r3.2.order.length]), (1, .lst true (some 2) (List.map ectrl_peer r3.2.peers)), (2, .lst false none (List.map (D.int .i64) r3.2.order))], 3⟩ ?_ ?_
 ·
  refine q1 _ ?_
  refine stepW (v := vi r2.1) (σ' := (upd (upd (upd (upd (upd (upd (stab [(0, .var [vl1 r1.n_.Events, vl0 r1.n_.Sets, .d (eL none (eL none (D.int .u16)) r1.n_.States), .d (.int .u64 r1.known), .loc 1 0 r1.peers.length, .loc 2 0 r1.order.length]), (1, .lst true (some 2) (List.map ectrl_peer r1.peers)), (2, .lst false none (List.map (D.int .i64) r1.order))]) 2 none) 1 none) 0 none) 3 (some (.lst false none (List.map (D.int .i64) r2.2.order)))) 1 (some (.lst true (some 2) (List.map ectrl_peer r2.2.peers)))) 0 (some (.var [vl1 r2.2.n_.Events, vl0 r2.2.n_.Sets, .d (eL none (eL none (D.int .u16)) r2.2.n_.States), .d (.int .u64 r2.2.known), .loc 1 0 r2.2.peers.length, .loc 3 0 r2.2.order.length])))) (n' := 4) (SCall.lift [0, 1, 2] (c_ctrl_Ctrl_Hear hr2) (show 3 ≤ 4 by decide) (by decide) (show ∀ i ∈ [0, 1, 2], i < 3 by decide) (dom_c (show 0 < 4 by decide) (dom_c (show 1 < 4 by decide) (dom_c (show 3 < 4 by decide) dom_n))) (VNs.c (.pt 0) (VNs.c (.d _) (VNs.c (.d _) VNs.nil0))) (SN.c (show 0 < 3 by decide) rfl (.vars (VNs.c (.d _) (VNs.c (.d _) (VNs.c (.d _) (VNs.c (.d _) (VNs.c (.lc 1) (VNs.c (.lc 2) VNs.nil0))))))) (SN.c (show 1 < 3 by decide) rfl (.lst _ _ _) (SN.c (show 2 < 3 by decide) rfl (.lst _ _ _) SN.nil0)))) (show 3 ≤ 4 by decide) ?_
  refine q1 _ ?_
  refine stepW (v := vi r3.1) (σ' := (upd (upd (upd (upd (upd (upd (upd (upd (upd (upd (upd (upd (stab [(0, .var [vl1 r1.n_.Events, vl0 r1.n_.Sets, .d (eL none (eL none (D.int .u16)) r1.n_.States), .d (.int .u64 r1.known), .loc 1 0 r1.peers.length, .loc 2 0 r1.order.length]), (1, .lst true (some 2) (List.map ectrl_peer r1.peers)), (2, .lst false none (List.map (D.int .i64) r1.order))]) 2 none) 1 none) 0 none) 3 (some (.lst false none (List.map (D.int .i64) r2.2.order)))) 1 (some (.lst true (some 2) (List.map ectrl_peer r2.2.peers)))) 0 (some (.var [vl1 r2.2.n_.Events, vl0 r2.2.n_.Sets, .d (eL none (eL none (D.int .u16)) r2.2.n_.States), .d (.int .u64 r2.2.known), .loc 1 0 r2.2.peers.length, .loc 3 0 r2.2.order.length]))) 3 none) 1 none) 0 none) 4 (some (.lst false none (List.map (D.int .i64) r3.2.order)))) 1 (some (.lst true (some 2) (List.map ectrl_peer r3.2.peers)))) 0 (some (.var [vl1 r3.2.n_.Events, vl0 r3.2.n_.Sets, .d (eL none (eL none (D.int .u16)) r3.2.n_.States), .d (.int .u64 r3.2.known), .loc 1 0 r3.2.peers.length, .loc 4 0 r3.2.order.length])))) (n' := 5) (SCall.lift [0, 1, 3] (c_ctrl_Ctrl_Hear hr3) (show 3 ≤ 4 by decide) (by decide) (show ∀ i ∈ [0, 1, 3], i < 4 by decide) (dom_c (show 0 < 4 by decide) (dom_c (show 1 < 4 by decide) (dom_c (show 3 < 4 by decide) dom_n))) (VNs.c (.pt 0) (VNs.c (.d _) (VNs.c (.d _) VNs.nil0))) (SN.c (show 0 < 3 by decide) rfl (.vars (VNs.c (.d _) (VNs.c (.d _) (VNs.c (.d _) (VNs.c (.d _) (VNs.c (.lc 1) (VNs.c (.lc 2) VNs.nil0))))))) (SN.c (show 1 < 3 by decide) rfl (.lst _ _ _) (SN.c (show 2 < 3 by decide) rfl (.lst _ _ _) SN.nil0)))) (show 4 ≤ 5 by decide) ?_
  iterate 2 refine q1 _ ?_
  exact nR [0, 1, 4]
 obtain ⟨r4, hr4, h⟩ := bindE h
 refine NWp.opsJ ⟨tab [(1, .ptr 0 0 0), (2, vi r2.1), (3, vi r3.1), (4, .d (.int .u64 r4.1)), (5, vi r4.2.1)], stab [(0, .var [vl1 r4.2.2.n_.Events, vl0 r4.2.2.n_.Sets, .d (eL none (eL none (D.int .u16)) r4.2.2.n_.States), .d (.int .u64 r4.2.2.known), .loc 1 0 r4.2.2.peers.length, .loc 2 0 r4.2.2.order.length]), (1, .lst true (some 2) (List.map ectrl_peer r4.2.2.peers)), (2, .lst false none (List.map (D.int .i64) r4.2.2.order))], 3⟩ ?_ ?_
 ·
  refine q1 _ ?_
  refine stepW (v := .d (.tup [.int .u64 r4.1, .int .i64 r4.2.1])) (σ' := (upd (upd (upd (upd (upd (upd (stab [(0, .var [vl1 r3.2.n_.Events, vl0 r3.2.n_.Sets, .d (eL none (eL none (D.int .u16)) r3.2.n_.States), .d (.int .u64 r3.2.known), .loc 1 0 r3.2.peers.length, .loc 2 0 r3.2.order.length]), (1, .lst true (some 2) (List.map ectrl_peer r3.2.peers)), (2, .lst false none (List.map (D.int .i64) r3.2.order))]) 2 none) 1 none) 0 none) 2 (some (.lst false none (List.map (D.int .i64) r4.2.2.order)))) 1 (some (.lst true (some 2) (List.map ectrl_peer r4.2.2.peers)))) 0 (some (.var [vl1 r4.2.2.n_.Events, vl0 r4.2.2.n_.Sets, .d (eL none (eL none (D.int .u16)) r4.2.2.n_.States), .d (.int .u64 r4.2.2.known), .loc 1 0 r4.2.2.peers.length, .loc 2 0 r4.2.2.order.length])))) (n' := 3) (SCall.lift [0, 1, 2] (c_ctrl_Ctrl_Tell hr4) (show 3 ≤ 3 by decide) (by decide) (show ∀ i ∈ [0, 1, 2], i < 3 by decide) (dom_c (show 0 < 3 by decide) (dom_c (show 1 < 3 by decide) (dom_c (show 2 < 3 by decide) dom_n))) (VNs.c (.pt 0) (VNs.c (.d _) VNs.nil0)) (SN.c (show 0 < 3 by decide) rfl (.vars (VNs.c (.d _) (VNs.c (.d _) (VNs.c (.d _) (VNs.c (.d _) (VNs.c (.lc 1) (VNs.c (.lc 2) VNs.nil0))))))) (SN.c (show 1 < 3 by decide) rfl (.lst _ _ _) (SN.c (show 2 < 3 by decide) rfl (.lst _ _ _) SN.nil0)))) (show 3 ≤ 3 by decide) ?_
  iterate 5 refine q1 _ ?_
  exact nR [0, 1, 2]
 obtain ⟨y14, hv, h⟩ := bindE h
 refine NWp.opsJ ⟨tab [(0, vb y14)], stab [], 0⟩ ?_ ?_
 ·
  iterate 3 refine q1 _ ?_
  by_cases hg5 : (r2.1 == 0) = true
  ·
   replace hv := iteT hg5 hv
   refine qG _ hg5 ?_
   refine q1 _ ?_
   refine qG _ hg5 ?_
   refine q1 _ ?_
   refine step (v := vb (r3.1 == 31)) (st_pickT (b := (r2.1 == 0)) rfl hg5 rfl) ?_
   refine q1 _ ?_
   by_cases hg6 : (r3.1 == 31) = true
   ·
    replace hv := iteT hg6 hv
    refine qG _ hg6 ?_
    refine q1 _ ?_
    refine qG _ hg6 ?_
    refine q1 _ ?_
    refine step (v := vb (r4.2.1 == 0)) (st_pickT (b := (r3.1 == 31)) rfl hg6 rfl) ?_
    refine q1 _ ?_
    by_cases hg7 : (r4.2.1 == 0) = true
    ·
     replace hv := iteT hg7 hv
     refine qG _ hg7 ?_
     refine q1 _ ?_
     refine qG _ hg7 ?_
     refine q1 _ ?_
     refine step (v := vb (r4.1 == 1)) (st_pickT (b := (r4.2.1 == 0)) rfl hg7 rfl) ?_
     refine q1 _ ?_
     by_cases hg8 : (r4.1 == 1) = true
     ·
      replace hv := iteT hg8 hv
      obtain ⟨r9, hr9, hv⟩ := bindE hv
      refine qG _ hg8 ?_
      refine q1 _ ?_
      refine qG _ hg8 ?_
      refine stepW (v := .d (.int .u64 r9)) (σ' := _) (n' := _) (PCall.borrow (c_ctrl_Ctrl_Known hr9) rfl (ViewsB.c (viewB_var rfl (ViewsB.c (.d _) (ViewsB.c (.d _) (ViewsB.c (.d _) (ViewsB.c (.d _) (ViewsB.c (viewB_all (xs := r4.2.2.peers) (e := ectrl_peer) rfl rfl) (ViewsB.c (viewB_all (xs := r4.2.2.order) (e := (D.int .i64)) rfl rfl) ViewsB.nil0))))))) ViewsB.nil0)) (Nat.le_refl _) ?_
      refine qG _ hg8 ?_
      refine q1 _ ?_
      refine step (v := vb (r9 == 1)) (st_pickT (b := (r4.1 == 1)) rfl hg8 rfl) ?_
      refine q1 _ ?_
      by_cases hg10 : (r9 == 1) = true
      ·
       replace hv := iteT hg10 hv
       obtain ⟨r11, hr11, hv⟩ := bindE hv
       refine qG _ hg10 ?_
       refine q1 _ ?_
       refine qG _ hg10 ?_
       refine stepW (v := vh r11) (σ' := _) (n' := _) (PCall.borrow (c_ctrl_Ctrl_Tag hr11) rfl (ViewsB.c (viewB_var rfl (ViewsB.c (.d _) (ViewsB.c (.d _) (ViewsB.c (.d _) (ViewsB.c (.d _) (ViewsB.c (viewB_all (xs := r4.2.2.peers) (e := ectrl_peer) rfl rfl) (ViewsB.c (viewB_all (xs := r4.2.2.order) (e := (D.int .i64)) rfl rfl) ViewsB.nil0))))))) ViewsB.nil0)) (Nat.le_refl _) ?_
       refine qG _ hg10 ?_
       refine q1 _ ?_
       refine step (v := vb (r11 == 1)) (st_pickT (b := (r9 == 1)) rfl hg10 rfl) ?_
       refine q1 _ ?_
       by_cases hg12 : (r11 == 1) = true
       ·
        replace hv := iteT hg12 hv
        obtain ⟨r13, hr13, hv⟩ := bindE hv
        refine qG _ hg12 ?_
        refine q1 _ ?_
        refine qG _ hg12 ?_
        refine stepW (v := .loc 3 0 r13.1.length) (σ' := (upd (upd (upd (upd (upd (upd (upd (stab [(0, .var [vl1 r4.2.2.n_.Events, vl0 r4.2.2.n_.Sets, .d (eL none (eL none (D.int .u16)) r4.2.2.n_.States), .d (.int .u64 r4.2.2.known), .loc 1 0 r4.2.2.peers.length, .loc 2 0 r4.2.2.order.length]), (1, .lst true (some 2) (List.map ectrl_peer r4.2.2.peers)), (2, .lst false none (List.map (D.int .i64) r4.2.2.order))]) 2 none) 1 none) 0 none) 3 (some (.lst true none (List.map (D.int .i64) r13.1)))) 2 (some (.lst false none (List.map (D.int .i64) r13.2.order)))) 1 (some (.lst true (some 2) (List.map ectrl_peer r13.2.peers)))) 0 (some (.var [vl1 r13.2.n_.Events, vl0 r13.2.n_.Sets, .d (eL none (eL none (D.int .u16)) r13.2.n_.States), .d (.int .u64 r13.2.known), .loc 1 0 r13.2.peers.length, .loc 2 0 r13.2.order.length])))) (n' := 4) (SCall.lift [0, 1, 2] (c_ctrl_Ctrl_Order hr13) (show 3 ≤ 4 by decide) (by decide) (show ∀ i ∈ [0, 1, 2], i < 3 by decide) (dom_c (show 0 < 4 by decide) (dom_c (show 1 < 4 by decide) (dom_c (show 2 < 4 by decide) (dom_c (show 3 < 4 by decide) dom_n)))) (VNs.c (.pt 0) VNs.nil0) (SN.c (show 0 < 3 by decide) rfl (.vars (VNs.c (.d _) (VNs.c (.d _) (VNs.c (.d _) (VNs.c (.d _) (VNs.c (.lc 1) (VNs.c (.lc 2) VNs.nil0))))))) (SN.c (show 1 < 3 by decide) rfl (.lst _ _ _) (SN.c (show 2 < 3 by decide) rfl (.lst _ _ _) SN.nil0)))) (show 3 ≤ 4 by decide) ?_
        refine qG _ hg12 ?_
        refine q1 _ ?_
        refine qG _ hg12 ?_
        refine q1 _ ?_
        refine step (v := vb ((r13.1.length : Int) == 1)) (st_pickT (b := (r11 == 1)) rfl hg12 rfl) ?_
        refine q1 _ ?_
        have hh := Option.some.inj hv
        subst hh
        exact nR []
       ·
        replace hv := iteF hg12 hv
        iterate 4 refine qX _ hg12 ?_
        refine step (v := vb false) (st_pickF (b := (r11 == 1)) rfl hg12 rfl) ?_
        refine q1 _ ?_
        have hh := Option.some.inj hv
        subst hh
        exact nR []
      ·
       replace hv := iteF hg10 hv
       iterate 3 refine qX _ hg10 ?_
       refine step (v := vb false) (st_pickF (b := (r9 == 1)) rfl hg10 rfl) ?_
       refine q1 _ ?_
       iterate 4 refine qX false (by decide) ?_
       refine step (v := vb false) (st_pickF (b := false) rfl (by decide) rfl) ?_
       refine q1 _ ?_
       have hh := Option.some.inj hv
       subst hh
       exact nR []
     ·
      replace hv := iteF hg8 hv
      iterate 3 refine qX _ hg8 ?_
      refine step (v := vb false) (st_pickF (b := (r4.1 == 1)) rfl hg8 rfl) ?_
      refine q1 _ ?_
      iterate 3 refine qX false (by decide) ?_
      refine step (v := vb false) (st_pickF (b := false) rfl (by decide) rfl) ?_
      refine q1 _ ?_
      iterate 4 refine qX false (by decide) ?_
      refine step (v := vb false) (st_pickF (b := false) rfl (by decide) rfl) ?_
      refine q1 _ ?_
      have hh := Option.some.inj hv
      subst hh
      exact nR []
    ·
     replace hv := iteF hg7 hv
     iterate 2 refine qX _ hg7 ?_
     refine step (v := vb false) (st_pickF (b := (r4.2.1 == 0)) rfl hg7 rfl) ?_
     refine q1 _ ?_
     iterate 3 refine qX false (by decide) ?_
     refine step (v := vb false) (st_pickF (b := false) rfl (by decide) rfl) ?_
     refine q1 _ ?_
     iterate 3 refine qX false (by decide) ?_
     refine step (v := vb false) (st_pickF (b := false) rfl (by decide) rfl) ?_
     refine q1 _ ?_
     iterate 4 refine qX false (by decide) ?_
     refine step (v := vb false) (st_pickF (b := false) rfl (by decide) rfl) ?_
     refine q1 _ ?_
     have hh := Option.some.inj hv
     subst hh
     exact nR []
   ·
    replace hv := iteF hg6 hv
    iterate 2 refine qX _ hg6 ?_
    refine step (v := vb false) (st_pickF (b := (r3.1 == 31)) rfl hg6 rfl) ?_
    refine q1 _ ?_
    iterate 2 refine qX false (by decide) ?_
    refine step (v := vb false) (st_pickF (b := false) rfl (by decide) rfl) ?_
    refine q1 _ ?_
    iterate 3 refine qX false (by decide) ?_
    refine step (v := vb false) (st_pickF (b := false) rfl (by decide) rfl) ?_
    refine q1 _ ?_
    iterate 3 refine qX false (by decide) ?_
    refine step (v := vb false) (st_pickF (b := false) rfl (by decide) rfl) ?_
    refine q1 _ ?_
    iterate 4 refine qX false (by decide) ?_
    refine step (v := vb false) (st_pickF (b := false) rfl (by decide) rfl) ?_
    refine q1 _ ?_
    have hh := Option.some.inj hv
    subst hh
    exact nR []
  ·
   replace hv := iteF hg5 hv
   iterate 2 refine qX _ hg5 ?_
   refine step (v := vb false) (st_pickF (b := (r2.1 == 0)) rfl hg5 rfl) ?_
   refine q1 _ ?_
   iterate 2 refine qX false (by decide) ?_
   refine step (v := vb false) (st_pickF (b := false) rfl (by decide) rfl) ?_
   refine q1 _ ?_
   iterate 2 refine qX false (by decide) ?_
   refine step (v := vb false) (st_pickF (b := false) rfl (by decide) rfl) ?_
   refine q1 _ ?_
   iterate 3 refine qX false (by decide) ?_
   refine step (v := vb false) (st_pickF (b := false) rfl (by decide) rfl) ?_
   refine q1 _ ?_
   iterate 3 refine qX false (by decide) ?_
   refine step (v := vb false) (st_pickF (b := false) rfl (by decide) rfl) ?_
   refine q1 _ ?_
   iterate 4 refine qX false (by decide) ?_
   refine step (v := vb false) (st_pickF (b := false) rfl (by decide) rfl) ?_
   refine q1 _ ?_
   have hh := Option.some.inj hv
   subst hh
   exact nR []
 have hh := Option.some.inj h
 subst hh
 refine NWp.ret ?_
 show FQ _ _ _ _
 exact FQ.mk1 (.inr rfl) (res_t (v := vb y14) rfl rfl) (RV.d trivial)

theorem c_law11_Small {a0 : api_Program} {r : Bool} (h : law11_Small a0 = some r) : PCall Tryd.prog 6 [eapi_Program a0] (.bool r) := by
 refine PCall.introN ok6 (show 1 ≤ 39 by decide) ?_
 refine NWp.norm (s0 := ⟨tab [(0, vs2 a0)], stab [], 0⟩) (nr []) ?_
 refine NWp.opsJ ⟨tab [(1, vp2 a0)], stab [], 0⟩ ?_ ?_
 ·
  iterate 2 refine q1 _ ?_
  exact nR []
 refine NWp.seq ?_
 refine NWp.opsJ ⟨tab [(1, vp2 a0), (14, vb ((decide ((a0.Init.length : Int) > 5)) || (decide ((a0.Rules.length : Int) > 26))))], stab [], 0⟩ ?_ ?_
 ·
  iterate 2 refine q1 _ ?_
  refine step (v := vi (a0.Init.length : Int)) (st_len (xs := a0.Init) (e := (D.int .u16)) rfl) ?_
  iterate 2 refine q1 _ ?_
  by_cases hg1 : decide ((a0.Init.length : Int) > 5) = true
  ·
   iterate 4 refine qX (decide ((a0.Init.length : Int) > 5)) (by rw [hg1]; decide) ?_
   refine step (v := vb true) (st_pickT (b := decide ((a0.Init.length : Int) > 5)) rfl hg1 rfl) ?_
   exact RunOps.nil' (nm [] ⟨.d _, .eq (by first | (simp [hg1]; done) | (simp_all; done) | grind), trivial⟩ trivial)
  ·
   refine qG (decide ((a0.Init.length : Int) > 5)) (Bool.eq_false_iff.2 hg1) ?_
   refine q1 _ ?_
   refine qG (decide ((a0.Init.length : Int) > 5)) (Bool.eq_false_iff.2 hg1) ?_
   refine q1 _ ?_
   refine qG (decide ((a0.Init.length : Int) > 5)) (Bool.eq_false_iff.2 hg1) ?_
   refine step (v := vi (a0.Rules.length : Int)) (st_len (xs := a0.Rules) (e := eapi_Rule) rfl) ?_
   refine qG (decide ((a0.Init.length : Int) > 5)) (Bool.eq_false_iff.2 hg1) ?_
   refine q1 _ ?_
   refine step (v := vb (decide ((a0.Rules.length : Int) > 26))) (st_pickF (b := decide ((a0.Init.length : Int) > 5)) rfl hg1 rfl) ?_
   exact RunOps.nil' (nm [] ⟨.d _, .eq (by first | (simp [hg1]; done) | (simp_all; done) | grind), trivial⟩ trivial)
 by_cases hc2 : ((decide ((a0.Init.length : Int) > 5)) || (decide ((a0.Rules.length : Int) > 26))) = true
 ·
  replace h := iteT hc2 h
  refine NWp.condT (t := ((decide ((a0.Init.length : Int) > 5)) || (decide ((a0.Rules.length : Int) > 26)))) rfl hc2 ?_
  refine NWp.opsJ ⟨tab [(2, vb false)], stab [], 0⟩ ?_ ?_
  ·
   refine q1 _ ?_
   exact nR []
  have hh := Option.some.inj h
  subst hh
  refine NWp.ret ?_
  show FQ _ _ _ _
  exact FQ.mk1 (.inr rfl) (res_t (v := vb false) rfl rfl) (RV.d trivial)
 ·
  replace h := iteF hc2 h
  refine NWp.condF (t := ((decide ((a0.Init.length : Int) > 5)) || (decide ((a0.Rules.length : Int) > 26)))) rfl hc2 ?_
  refine NWp.skip ?_
  refine NWp.seq ?_
  refine NWp.opsJ ⟨tab [(16, vl7 a0.Rules), (17, vi (a0.Rules.length : Int)), (18, vi 0)], stab [], 0⟩ ?_ ?_
  ·
   iterate 2 refine q1 _ ?_
   refine step (v := vi (a0.Rules.length : Int)) (st_len (xs := a0.Rules) (e := eapi_Rule) rfl) ?_
   refine q1 _ ?_
   exact nR []
  obtain ⟨q13, hl, h⟩ := bindE h
  refine NWp.block ?_
  refine loop_forR (cntU (a0.Rules.length : Int)) (fun (i3 : Int) (qq : Unit) => ⟨tab [(16, vl7 a0.Rules), (17, vi (a0.Rules.length : Int)), (18, vi i3)], stab [], 0⟩) 0 (fun (qq : Unit) => ⟨tab [], stab [], 0⟩) Low low_step (r := r) hl (by unfold Low; omega) ?_ ?_ ?_ ?_
  ·
   rintro i3 ⟨⟩ xr8 hinv6 hgo5 h
   show NWp _ _ _ _ _ ⟨tab [(16, vl7 a0.Rules), (17, vi (a0.Rules.length : Int)), (18, vi i3)], stab [], 0⟩
   have hc7 : decide (i3 < (a0.Rules.length : Int)) = true := decide_eq_true hgo5
   refine NWp.opsJ ⟨tab [(16, vl7 a0.Rules), (17, vi (a0.Rules.length : Int)), (18, vi i3), (19, vb (decide (i3 < (a0.Rules.length : Int))))], stab [], 0⟩ ?_ ?_
   ·
    refine q1 _ ?_
    exact nR []
   refine NWp.rng 17 rfl fun hB4 => ?_
   refine NWp.seq ?_
   refine NWp.condT (t := decide (i3 < (a0.Rules.length : Int))) rfl hc7 ?_
   refine NWp.skip ?_
   refine NWp.seq ?_
   refine NWp.block ?_
   obtain ⟨x9, hx9, h⟩ := bindE h
   refine NWp.opsJ ⟨tab [(4, .ptr 0 0 0), (16, vl7 a0.Rules), (17, vi (a0.Rules.length : Int)), (18, vi i3)], stab [(0, .var [vl6 x9.When, vl6 x9.Guard, vl6 x9.Then])], 1⟩ ?_ ?_
   ·
    refine step (v := vp4 x9) (st_iaddr (xs := a0.Rules) (e := eapi_Rule) hx9 rfl rfl) ?_
    refine q1 _ ?_
    refine step (v := .ptr 0 0 0) (σ' := (upd (stab []) 0 (some (.var [vl6 [], vl6 [], vl6 []])))) (n' := 1) rfl ?_
    refine step (v := V.undef) (σ' := (upd (upd (stab []) 0 (some (.var [vl6 [], vl6 [], vl6 []]))) 0 (some (.var [vl6 x9.When, vl6 x9.Guard, vl6 x9.Then])))) (n' := 1) rfl ?_
    exact nR [0]
   refine NWp.opsJ ⟨tab [(16, vl7 a0.Rules), (17, vi (a0.Rules.length : Int)), (18, vi i3), (37, vb ((decide ((x9.When.length : Int) > 8)) || ((decide ((x9.Guard.length : Int) > 6)) || (decide ((x9.Then.length : Int) > 6)))))], stab [], 0⟩ ?_ ?_
   ·
    iterate 2 refine q1 _ ?_
    refine step (v := vi (x9.When.length : Int)) (st_len (xs := x9.When) (e := eapi_Pair) rfl) ?_
    iterate 2 refine q1 _ ?_
    by_cases hg10 : decide ((x9.When.length : Int) > 8) = true
    ·
     iterate 4 refine qX (decide ((x9.When.length : Int) > 8)) (by rw [hg10]; decide) ?_
     refine step (v := vb true) (st_pickT (b := decide ((x9.When.length : Int) > 8)) rfl hg10 rfl) ?_
     refine q1 _ ?_
     iterate 4 refine qX true (by decide) ?_
     refine step (v := vb true) (st_pickT (b := true) rfl rfl rfl) ?_
     exact RunOps.nil' (nm [] ⟨.d _, .d _, .d _, .eq (by first | (simp [hg10]; done) | (simp_all; done) | grind), trivial⟩ trivial)
    ·
     refine qG (decide ((x9.When.length : Int) > 8)) (Bool.eq_false_iff.2 hg10) ?_
     refine q1 _ ?_
     refine qG (decide ((x9.When.length : Int) > 8)) (Bool.eq_false_iff.2 hg10) ?_
     refine q1 _ ?_
     refine qG (decide ((x9.When.length : Int) > 8)) (Bool.eq_false_iff.2 hg10) ?_
     refine step (v := vi (x9.Guard.length : Int)) (st_len (xs := x9.Guard) (e := eapi_Pair) rfl) ?_
     refine qG (decide ((x9.When.length : Int) > 8)) (Bool.eq_false_iff.2 hg10) ?_
     refine q1 _ ?_
     refine step (v := vb (decide ((x9.Guard.length : Int) > 6))) (st_pickF (b := decide ((x9.When.length : Int) > 8)) rfl hg10 rfl) ?_
     refine q1 _ ?_
     by_cases hg11 : decide ((x9.Guard.length : Int) > 6) = true
     ·
      iterate 4 refine qX (decide ((x9.Guard.length : Int) > 6)) (by rw [hg11]; decide) ?_
      refine step (v := vb true) (st_pickT (b := decide ((x9.Guard.length : Int) > 6)) rfl hg11 rfl) ?_
      exact RunOps.nil' (nm [] ⟨.d _, .d _, .d _, .eq (by first | (simp [hg10, hg11]; done) | (simp_all; done) | grind), trivial⟩ trivial)
     ·
      refine qG (decide ((x9.Guard.length : Int) > 6)) (Bool.eq_false_iff.2 hg11) ?_
      refine q1 _ ?_
      refine qG (decide ((x9.Guard.length : Int) > 6)) (Bool.eq_false_iff.2 hg11) ?_
      refine q1 _ ?_
      refine qG (decide ((x9.Guard.length : Int) > 6)) (Bool.eq_false_iff.2 hg11) ?_
      refine step (v := vi (x9.Then.length : Int)) (st_len (xs := x9.Then) (e := eapi_Pair) rfl) ?_
      refine qG (decide ((x9.Guard.length : Int) > 6)) (Bool.eq_false_iff.2 hg11) ?_
      refine q1 _ ?_
      refine step (v := vb (decide ((x9.Then.length : Int) > 6))) (st_pickF (b := decide ((x9.Guard.length : Int) > 6)) rfl hg11 rfl) ?_
      exact RunOps.nil' (nm [] ⟨.d _, .d _, .d _, .eq (by first | (simp [hg10, hg11]; done) | (simp_all; done) | grind), trivial⟩ trivial)
   by_cases hc12 : ((decide ((x9.When.length : Int) > 8)) || ((decide ((x9.Guard.length : Int) > 6)) || (decide ((x9.Then.length : Int) > 6)))) = true
   ·
    replace h := iteT hc12 h
    refine NWp.condT (t := ((decide ((x9.When.length : Int) > 8)) || ((decide ((x9.Guard.length : Int) > 6)) || (decide ((x9.Then.length : Int) > 6))))) rfl hc12 ?_
    refine NWp.opsJ ⟨tab [(2, vb false)], stab [], 0⟩ ?_ ?_
    ·
     refine q1 _ ?_
     exact nR []
    obtain ⟨r13, kr13, hr⟩ := mapE (o := some false) (g := Br.ret) h
    subst hr
    have h := kr13
    have hh := Option.some.inj h
    subst hh
    refine NWp.ret ?_
    refine And.intro (fun hn => nomatch hn) ?_
    intro hq
    have hq := hq.symm
    subst hq
    show FQ _ _ _ _
    exact FQ.mk1 (.inr rfl) (res_t (v := vb false) rfl rfl) (RV.d trivial)
   ·
    replace h := iteF hc12 h
    refine NWp.condF (t := ((decide ((x9.When.length : Int) > 8)) || ((decide ((x9.Guard.length : Int) > 6)) || (decide ((x9.Then.length : Int) > 6))))) rfl hc12 ?_
    refine NWp.skip ?_
    have hh := Option.some.inj h
    subst hh
    refine NWp.opsE ⟨tab [(16, vl7 a0.Rules), (17, vi (a0.Rules.length : Int)), (18, vi (i3 + 1))], stab [], 0⟩ ?_ ?_
    ·
     refine step (v := vi (i3 + 1)) (st_inc (inc_ok hinv6 hgo5 hB4) rfl rfl) ?_
     refine q1 _ ?_
     exact nR []
    exact And.intro rfl rfl
  ·
   rintro i3 ⟨⟩ hinv6 hgo5
   show NWp _ _ _ _ _ ⟨tab [(16, vl7 a0.Rules), (17, vi (a0.Rules.length : Int)), (18, vi i3)], stab [], 0⟩
   have hc7 : ¬ (decide (i3 < (a0.Rules.length : Int)) = true) := fun hq => hgo5 (of_decide_eq_true hq)
   refine NWp.opsJ ⟨tab [(16, vl7 a0.Rules), (17, vi (a0.Rules.length : Int)), (18, vi i3), (19, vb (decide (i3 < (a0.Rules.length : Int))))], stab [], 0⟩ ?_ ?_
   ·
    refine q1 _ ?_
    exact nR []
   refine NWp.seq ?_
   refine NWp.condF (t := decide (i3 < (a0.Rules.length : Int))) rfl hc7 ?_
   refine NWp.norm (s0 := ⟨tab [], stab [], 0⟩) (nr []) ?_
   refine NWp.exit ?_
   exact And.intro rfl rfl
  ·
   intro r' hq
   subst hq
   exact Option.some.inj h
  rintro ⟨⟩ rfl
  refine NWp.opsJ ⟨tab [(2, vb true)], stab [], 0⟩ ?_ ?_
  ·
   refine q1 _ ?_
   exact nR []
  have hh := Option.some.inj h
  subst hh
  refine NWp.ret ?_
  show FQ _ _ _ _
  exact FQ.mk1 (.inr rfl) (res_t (v := vb true) rfl rfl) (RV.d trivial)

theorem c_ref05_Size_s {self : api_Pol → Option Int} (hself : ∀ (a0 : api_Pol) (r : Int), self a0 = some r → PCall Tryd.prog 48 [uapi_Pol a0] (.int .i64 r)) {a0 : api_Pol} {r : Int} (h : ref05_Size_s self a0 = some r) : PCall Tryd.prog 48 [uapi_Pol a0] (.int .i64 r) := by
 refine PCall.introN ok48 (show 1 ≤ 21 by decide) ?_
 refine NWp.norm (s0 := ⟨tab [(0, .d (uapi_Pol a0))], stab [], 0⟩) (nr []) ?_
 refine NWp.opsJ ⟨tab [(1, vp3 a0)], stab [], 0⟩ ?_ ?_
 ·
  iterate 2 refine q1 _ ?_
  exact nR []
 refine NWp.opsJ ⟨tab [(1, vp3 a0), (3, vi 1)], stab [], 0⟩ ?_ ?_
 ·
  refine q1 _ ?_
  exact nR []
 refine NWp.seq ?_
 refine NWp.opsJ ⟨tab [(1, vp3 a0), (3, vi 1), (4, vi 0)], stab [], 0⟩ ?_ ?_
 ·
  refine q1 _ ?_
  exact nR []
 obtain ⟨z10, hl, h⟩ := bindE h
 refine NWp.block ?_
 refine loop_forO (cntU (a0.Kids.length : Int)) (fun (i2 : Int) (qq : Int) => ⟨tab [(1, vp3 a0), (3, vi qq), (4, vi i2)], stab [], 0⟩) 0 (fun (qq : Int) => ⟨tab [(3, vi qq)], stab [], 0⟩) Low low_step hl (by unfold Low; omega) ?_ ?_ ?_
 ·
  rintro i2 i1 xr7 hinv5 hgo4 h
  show NWp _ _ _ _ _ ⟨tab [(1, vp3 a0), (3, vi i1), (4, vi i2)], stab [], 0⟩
  have hc6 : decide (i2 < (a0.Kids.length : Int)) = true := decide_eq_true hgo4
  refine NWp.seq ?_
  refine NWp.opsJ ⟨tab [(1, vp3 a0), (3, vi i1), (4, vi i2), (8, vi (a0.Kids.length : Int)), (9, vb (decide (i2 < (a0.Kids.length : Int))))], stab [], 0⟩ ?_ ?_
  ·
   iterate 3 refine q1 _ ?_
   refine step (v := vi (a0.Kids.length : Int)) (st_len (xs := a0.Kids) (e := eapi_Pol) rfl) ?_
   refine q1 _ ?_
   exact nR []
  refine NWp.rng 8 rfl fun hB3 => ?_
  refine NWp.condT (t := decide (i2 < (a0.Kids.length : Int))) rfl hc6 ?_
  refine NWp.skip ?_
  refine NWp.seq ?_
  refine NWp.block ?_
  obtain ⟨x8, hx8, h⟩ := bindE h
  obtain ⟨r9, hr9, h⟩ := bindE h
  refine NWp.opsE ⟨tab [(1, vp3 a0), (3, vi (IntKind.i64.wrap (i1 + r9))), (4, vi i2)], stab [], 0⟩ ?_ ?_
  ·
   iterate 4 refine q1 _ ?_
   refine step (v := vp3 x8) (st_iaddrU (xs := a0.Kids) (e := eapi_Pol) hx8 rfl rfl (eu_api_Pol _)) ?_
   refine q1 _ ?_
   refine stepC (r := .int .i64 r9) (ArgsOk.dt ArgsOk.nil') (hself _ _ hr9) ?_
   iterate 2 refine q1 _ ?_
   exact nR []
  have hh := Option.some.inj h
  subst hh
  refine NWp.opsE ⟨tab [(1, vp3 a0), (3, vi (IntKind.i64.wrap (i1 + r9))), (4, vi (i2 + 1))], stab [], 0⟩ ?_ ?_
  ·
   refine q1 _ ?_
   refine step (v := vi (i2 + 1)) (st_inc (inc_ok hinv5 hgo4 hB3) rfl rfl) ?_
   refine q1 _ ?_
   exact nR []
  exact And.intro rfl rfl
 ·
  rintro i2 i1 hinv5 hgo4
  show NWp _ _ _ _ _ ⟨tab [(1, vp3 a0), (3, vi i1), (4, vi i2)], stab [], 0⟩
  have hc6 : ¬ (decide (i2 < (a0.Kids.length : Int)) = true) := fun hq => hgo4 (of_decide_eq_true hq)
  refine NWp.seq ?_
  refine NWp.opsJ ⟨tab [(1, vp3 a0), (3, vi i1), (4, vi i2), (9, vb (decide (i2 < (a0.Kids.length : Int))))], stab [], 0⟩ ?_ ?_
  ·
   iterate 3 refine q1 _ ?_
   refine step (v := vi (a0.Kids.length : Int)) (st_len (xs := a0.Kids) (e := eapi_Pol) rfl) ?_
   refine q1 _ ?_
   exact nR []
  refine NWp.condF (t := decide (i2 < (a0.Kids.length : Int))) rfl hc6 ?_
  refine NWp.norm (s0 := ⟨tab [(3, vi i1)], stab [], 0⟩) (nr []) ?_
  refine NWp.exit ?_
  exact And.intro rfl rfl
 refine NWp.opsJ ⟨tab [(2, vi z10)], stab [], 0⟩ ?_ ?_
 ·
  iterate 2 refine q1 _ ?_
  exact nR []
 have hh := Option.some.inj h
 subst hh
 refine NWp.ret ?_
 show FQ _ _ _ _
 exact FQ.mk1 (.inr rfl) (res_t (v := vi z10) rfl rfl) (RV.d trivial)

theorem c_ref05_Size_f : ∀ (k : Nat) (a0 : api_Pol) (r : Int), ref05_Size_f k a0 = some r → PCall Tryd.prog 48 [uapi_Pol a0] (.int .i64 r)
 | 0, _, _, h => by cases h
 | k + 1, _, _, h => c_ref05_Size_s (c_ref05_Size_f k) h

theorem c_ref05_Size {a0 : api_Pol} {r : Int} (h : ref05_Size a0 = some r) : PCall Tryd.prog 48 [uapi_Pol a0] (.int .i64 r) := c_ref05_Size_f FUEL _ _ h

theorem c_ref05_Depth_s {self : api_Pol → Option Int} (hself : ∀ (a0 : api_Pol) (r : Int), self a0 = some r → PCall Tryd.prog 49 [uapi_Pol a0] (.int .i64 r)) {a0 : api_Pol} {r : Int} (h : ref05_Depth_s self a0 = some r) : PCall Tryd.prog 49 [uapi_Pol a0] (.int .i64 r) := by
 refine PCall.introN ok49 (show 1 ≤ 22 by decide) ?_
 refine NWp.norm (s0 := ⟨tab [(0, .d (uapi_Pol a0))], stab [], 0⟩) (nr []) ?_
 refine NWp.opsJ ⟨tab [(1, vp3 a0)], stab [], 0⟩ ?_ ?_
 ·
  iterate 2 refine q1 _ ?_
  exact nR []
 refine NWp.opsJ ⟨tab [(1, vp3 a0), (3, vi 0)], stab [], 0⟩ ?_ ?_
 ·
  refine q1 _ ?_
  exact nR []
 refine NWp.seq ?_
 refine NWp.opsJ ⟨tab [(1, vp3 a0), (3, vi 0), (4, vi 0)], stab [], 0⟩ ?_ ?_
 ·
  refine q1 _ ?_
  exact nR []
 obtain ⟨z10, hl, h⟩ := bindE h
 refine NWp.block ?_
 refine loop_forO (cntU (a0.Kids.length : Int)) (fun (i2 : Int) (qq : Int) => ⟨tab [(1, vp3 a0), (3, vi qq), (4, vi i2)], stab [], 0⟩) 0 (fun (qq : Int) => ⟨tab [(3, vi qq)], stab [], 0⟩) Low low_step hl (by unfold Low; omega) ?_ ?_ ?_
 ·
  rintro i2 i1 xr7 hinv5 hgo4 h
  show NWp _ _ _ _ _ ⟨tab [(1, vp3 a0), (3, vi i1), (4, vi i2)], stab [], 0⟩
  have hc6 : decide (i2 < (a0.Kids.length : Int)) = true := decide_eq_true hgo4
  refine NWp.seq ?_
  refine NWp.opsJ ⟨tab [(1, vp3 a0), (3, vi i1), (4, vi i2), (8, vi (a0.Kids.length : Int)), (9, vb (decide (i2 < (a0.Kids.length : Int))))], stab [], 0⟩ ?_ ?_
  ·
   iterate 3 refine q1 _ ?_
   refine step (v := vi (a0.Kids.length : Int)) (st_len (xs := a0.Kids) (e := eapi_Pol) rfl) ?_
   refine q1 _ ?_
   exact nR []
  refine NWp.rng 8 rfl fun hB3 => ?_
  refine NWp.condT (t := decide (i2 < (a0.Kids.length : Int))) rfl hc6 ?_
  refine NWp.skip ?_
  refine NWp.seq ?_
  refine NWp.block ?_
  obtain ⟨x8, hx8, h⟩ := bindE h
  obtain ⟨r9, hr9, h⟩ := bindE h
  refine NWp.opsE ⟨tab [(1, vp3 a0), (3, vi (imax i1 r9)), (4, vi i2)], stab [], 0⟩ ?_ ?_
  ·
   iterate 4 refine q1 _ ?_
   refine step (v := vp3 x8) (st_iaddrU (xs := a0.Kids) (e := eapi_Pol) hx8 rfl rfl (eu_api_Pol _)) ?_
   refine q1 _ ?_
   refine stepC (r := .int .i64 r9) (ArgsOk.dt ArgsOk.nil') (hself _ _ hr9) ?_
   iterate 2 refine q1 _ ?_
   exact nR []
  have hh := Option.some.inj h
  subst hh
  refine NWp.opsE ⟨tab [(1, vp3 a0), (3, vi (imax i1 r9)), (4, vi (i2 + 1))], stab [], 0⟩ ?_ ?_
  ·
   refine q1 _ ?_
   refine step (v := vi (i2 + 1)) (st_inc (inc_ok hinv5 hgo4 hB3) rfl rfl) ?_
   refine q1 _ ?_
   exact nR []
  exact And.intro rfl rfl
 ·
  rintro i2 i1 hinv5 hgo4
  show NWp _ _ _ _ _ ⟨tab [(1, vp3 a0), (3, vi i1), (4, vi i2)], stab [], 0⟩
  have hc6 : ¬ (decide (i2 < (a0.Kids.length : Int)) = true) := fun hq => hgo4 (of_decide_eq_true hq)
  refine NWp.seq ?_
  refine NWp.opsJ ⟨tab [(1, vp3 a0), (3, vi i1), (4, vi i2), (9, vb (decide (i2 < (a0.Kids.length : Int))))], stab [], 0⟩ ?_ ?_
  ·
   iterate 3 refine q1 _ ?_
   refine step (v := vi (a0.Kids.length : Int)) (st_len (xs := a0.Kids) (e := eapi_Pol) rfl) ?_
   refine q1 _ ?_
   exact nR []
  refine NWp.condF (t := decide (i2 < (a0.Kids.length : Int))) rfl hc6 ?_
  refine NWp.norm (s0 := ⟨tab [(3, vi i1)], stab [], 0⟩) (nr []) ?_
  refine NWp.exit ?_
  exact And.intro rfl rfl
 refine NWp.opsJ ⟨tab [(2, vi (IntKind.i64.wrap (z10 + 1)))], stab [], 0⟩ ?_ ?_
 ·
  iterate 3 refine q1 _ ?_
  exact nR []
 have hh := Option.some.inj h
 subst hh
 refine NWp.ret ?_
 show FQ _ _ _ _
 exact FQ.mk1 (.inr rfl) (res_t (v := vi (IntKind.i64.wrap (z10 + 1))) rfl rfl) (RV.d trivial)

theorem c_ref05_Depth_f : ∀ (k : Nat) (a0 : api_Pol) (r : Int), ref05_Depth_f k a0 = some r → PCall Tryd.prog 49 [uapi_Pol a0] (.int .i64 r)
 | 0, _, _, h => by cases h
 | k + 1, _, _, h => c_ref05_Depth_s (c_ref05_Depth_f k) h

theorem c_ref05_Depth {a0 : api_Pol} {r : Int} (h : ref05_Depth a0 = some r) : PCall Tryd.prog 49 [uapi_Pol a0] (.int .i64 r) := c_ref05_Depth_f FUEL _ _ h

theorem c_ref05_Predicate_s {self : api_Pol → Option Bool} (hself : ∀ (a0 : api_Pol) (r : Bool), self a0 = some r → PCall Tryd.prog 56 [uapi_Pol a0] (.bool r)) {a0 : api_Pol} {r : Bool} (h : ref05_Predicate_s self a0 = some r) : PCall Tryd.prog 56 [uapi_Pol a0] (.bool r) := by
 refine PCall.introN ok56 (show 1 ≤ 39 by decide) ?_
 refine NWp.norm (s0 := ⟨tab [(0, .d (uapi_Pol a0))], stab [], 0⟩) (nr []) ?_
 refine NWp.opsJ ⟨tab [(1, vp3 a0)], stab [], 0⟩ ?_ ?_
 ·
  iterate 2 refine q1 _ ?_
  exact nR []
 refine NWp.seq ?_
 refine NWp.opsJ ⟨tab [(1, vp3 a0), (16, vb ((a0.Op == 5) || ((decide (a0.Op < 0)) || (decide (a0.Op > 7)))))], stab [], 0⟩ ?_ ?_
 ·
  iterate 4 refine q1 _ ?_
  by_cases hg1 : (a0.Op == 5) = true
  ·
   iterate 3 refine qX (a0.Op == 5) (by rw [hg1]; decide) ?_
   refine step (v := vb true) (st_pickT (b := (a0.Op == 5)) rfl hg1 rfl) ?_
   refine q1 _ ?_
   iterate 3 refine qX true (by decide) ?_
   refine step (v := vb true) (st_pickT (b := true) rfl rfl rfl) ?_
   exact RunOps.nil' (nm [] ⟨.d _, .eq (by first | (simp [hg1]; done) | (simp_all; done) | grind), trivial⟩ trivial)
  ·
   refine qG (a0.Op == 5) (Bool.eq_false_iff.2 hg1) ?_
   refine q1 _ ?_
   refine qG (a0.Op == 5) (Bool.eq_false_iff.2 hg1) ?_
   refine q1 _ ?_
   refine qG (a0.Op == 5) (Bool.eq_false_iff.2 hg1) ?_
   refine q1 _ ?_
   refine step (v := vb (decide (a0.Op < 0))) (st_pickF (b := (a0.Op == 5)) rfl hg1 rfl) ?_
   refine q1 _ ?_
   by_cases hg2 : decide (a0.Op < 0) = true
   ·
    iterate 3 refine qX (decide (a0.Op < 0)) (by rw [hg2]; decide) ?_
    refine step (v := vb true) (st_pickT (b := decide (a0.Op < 0)) rfl hg2 rfl) ?_
    exact RunOps.nil' (nm [] ⟨.d _, .eq (by first | (simp [hg1, hg2]; done) | (simp_all; done) | grind), trivial⟩ trivial)
   ·
    refine qG (decide (a0.Op < 0)) (Bool.eq_false_iff.2 hg2) ?_
    refine q1 _ ?_
    refine qG (decide (a0.Op < 0)) (Bool.eq_false_iff.2 hg2) ?_
    refine q1 _ ?_
    refine qG (decide (a0.Op < 0)) (Bool.eq_false_iff.2 hg2) ?_
    refine q1 _ ?_
    refine step (v := vb (decide (a0.Op > 7))) (st_pickF (b := decide (a0.Op < 0)) rfl hg2 rfl) ?_
    exact RunOps.nil' (nm [] ⟨.d _, .eq (by first | (simp [hg1, hg2]; done) | (simp_all; done) | grind), trivial⟩ trivial)
 by_cases hc3 : ((a0.Op == 5) || ((decide (a0.Op < 0)) || (decide (a0.Op > 7)))) = true
 ·
  replace h := iteT hc3 h
  refine NWp.condT (t := ((a0.Op == 5) || ((decide (a0.Op < 0)) || (decide (a0.Op > 7))))) rfl hc3 ?_
  refine NWp.opsJ ⟨tab [(2, vb false)], stab [], 0⟩ ?_ ?_
  ·
   refine q1 _ ?_
   exact nR []
  have hh := Option.some.inj h
  subst hh
  refine NWp.ret ?_
  show FQ _ _ _ _
  exact FQ.mk1 (.inr rfl) (res_t (v := vb false) rfl rfl) (RV.d trivial)
 ·
  replace h := iteF hc3 h
  refine NWp.condF (t := ((a0.Op == 5) || ((decide (a0.Op < 0)) || (decide (a0.Op > 7))))) rfl hc3 ?_
  refine NWp.skip ?_
  obtain ⟨q16, hv, h⟩ := bindE h
  refine NWp.seqS (fun (qq : Unit) => ⟨tab [], stab [], 0⟩) (xv := q16) (r := r) ?_ ?_ ?_
  ·
   replace h := hv
   refine NWp.opsJ ⟨tab [(1, vp3 a0), (24, vb ((a0.Op == 6) || (a0.Op == 7)))], stab [], 0⟩ ?_ ?_
   ·
    iterate 4 refine q1 _ ?_
    by_cases hg4 : (a0.Op == 6) = true
    ·
     iterate 3 refine qX (a0.Op == 6) (by rw [hg4]; decide) ?_
     refine step (v := vb true) (st_pickT (b := (a0.Op == 6)) rfl hg4 rfl) ?_
     exact RunOps.nil' (nm [] ⟨.d _, .eq (by first | (simp [hg4]; done) | (simp_all; done) | grind), trivial⟩ trivial)
    ·
     refine qG (a0.Op == 6) (Bool.eq_false_iff.2 hg4) ?_
     refine q1 _ ?_
     refine qG (a0.Op == 6) (Bool.eq_false_iff.2 hg4) ?_
     refine q1 _ ?_
     refine qG (a0.Op == 6) (Bool.eq_false_iff.2 hg4) ?_
     refine q1 _ ?_
     refine step (v := vb (a0.Op == 7)) (st_pickF (b := (a0.Op == 6)) rfl hg4 rfl) ?_
     exact RunOps.nil' (nm [] ⟨.d _, .eq (by first | (simp [hg4]; done) | (simp_all; done) | grind), trivial⟩ trivial)
   by_cases hc5 : ((a0.Op == 6) || (a0.Op == 7)) = true
   ·
    replace h := iteT hc5 h
    refine NWp.condT (t := ((a0.Op == 6) || (a0.Op == 7))) rfl hc5 ?_
    refine NWp.opsJ ⟨tab [(1, vp3 a0), (3, vi 0)], stab [], 0⟩ ?_ ?_
    ·
     refine q1 _ ?_
     exact nR []
    obtain ⟨q15, hl, h⟩ := bindE h
    refine NWp.block ?_
    refine loop_forR (cntU (a0.Kids.length : Int)) (fun (i6 : Int) (qq : Unit) => ⟨tab [(1, vp3 a0), (3, vi i6)], stab [], 0⟩) 0 (fun (qq : Unit) => ⟨tab [], stab [], 0⟩) Low low_step (r := q16) hl (by unfold Low; omega) ?_ ?_ ?_ ?_
    ·
     rintro i6 ⟨⟩ xr11 hinv9 hgo8 h
     show NWp _ _ _ _ _ ⟨tab [(1, vp3 a0), (3, vi i6)], stab [], 0⟩
     have hc10 : decide (i6 < (a0.Kids.length : Int)) = true := decide_eq_true hgo8
     refine NWp.seq ?_
     refine NWp.opsJ ⟨tab [(1, vp3 a0), (3, vi i6), (28, vi (a0.Kids.length : Int)), (29, vb (decide (i6 < (a0.Kids.length : Int))))], stab [], 0⟩ ?_ ?_
     ·
      iterate 3 refine q1 _ ?_
      refine step (v := vi (a0.Kids.length : Int)) (st_len (xs := a0.Kids) (e := eapi_Pol) rfl) ?_
      refine q1 _ ?_
      exact nR []
     refine NWp.rng 28 rfl fun hB7 => ?_
     refine NWp.condT (t := decide (i6 < (a0.Kids.length : Int))) rfl hc10 ?_
     refine NWp.skip ?_
     refine NWp.seq ?_
     refine NWp.block ?_
     obtain ⟨x12, hx12, h⟩ := bindE h
     obtain ⟨r13, hr13, h⟩ := bindE h
     refine NWp.opsJ ⟨tab [(1, vp3 a0), (3, vi i6), (38, vb (!r13))], stab [], 0⟩ ?_ ?_
     ·
      iterate 3 refine q1 _ ?_
      refine step (v := vp3 x12) (st_iaddrU (xs := a0.Kids) (e := eapi_Pol) hx12 rfl rfl (eu_api_Pol _)) ?_
      refine q1 _ ?_
      refine stepC (r := .bool r13) (ArgsOk.dt ArgsOk.nil') (hself _ _ hr13) ?_
      refine q1 _ ?_
      exact nR []
     by_cases hc14 : (!r13) = true
     ·
      replace h := iteT hc14 h
      refine NWp.condT (t := (!r13)) rfl hc14 ?_
      refine NWp.opsJ ⟨tab [(2, vb false)], stab [], 0⟩ ?_ ?_
      ·
       refine q1 _ ?_
       exact nR []
      obtain ⟨r15, kr15, hr⟩ := mapE (o := some (Sum.inr false)) (g := Br.ret) h
      subst hr
      have h := kr15
      obtain ⟨r16, kr16, hr⟩ := mapE (o := some false) (g := Sum.inr) h
      subst hr
      have h := kr16
      have hh := Option.some.inj h
      subst hh
      refine NWp.ret ?_
      refine And.intro (fun hn => nomatch hn) ?_
      intro hq
      have hq := hq.symm
      subst hq
      refine And.intro (fun hn => nomatch hn) ?_
      intro hq
      have hq := hq.symm
      subst hq
      show FQ _ _ _ _
      exact FQ.mk1 (.inr rfl) (res_t (v := vb false) rfl rfl) (RV.d trivial)
     ·
      replace h := iteF hc14 h
      refine NWp.condF (t := (!r13)) rfl hc14 ?_
      refine NWp.skip ?_
      have hh := Option.some.inj h
      subst hh
      refine NWp.opsE ⟨tab [(1, vp3 a0), (3, vi (i6 + 1))], stab [], 0⟩ ?_ ?_
      ·
       refine q1 _ ?_
       refine step (v := vi (i6 + 1)) (st_inc (inc_ok hinv9 hgo8 hB7) rfl rfl) ?_
       refine q1 _ ?_
       exact nR []
      exact And.intro rfl rfl
    ·
     rintro i6 ⟨⟩ hinv9 hgo8
     show NWp _ _ _ _ _ ⟨tab [(1, vp3 a0), (3, vi i6)], stab [], 0⟩
     have hc10 : ¬ (decide (i6 < (a0.Kids.length : Int)) = true) := fun hq => hgo8 (of_decide_eq_true hq)
     refine NWp.seq ?_
     refine NWp.opsJ ⟨tab [(1, vp3 a0), (3, vi i6), (29, vb (decide (i6 < (a0.Kids.length : Int))))], stab [], 0⟩ ?_ ?_
     ·
      iterate 3 refine q1 _ ?_
      refine step (v := vi (a0.Kids.length : Int)) (st_len (xs := a0.Kids) (e := eapi_Pol) rfl) ?_
      refine q1 _ ?_
      exact nR []
     refine NWp.condF (t := decide (i6 < (a0.Kids.length : Int))) rfl hc10 ?_
     refine NWp.norm (s0 := ⟨tab [], stab [], 0⟩) (nr []) ?_
     refine NWp.exit ?_
     exact And.intro rfl rfl
    ·
     intro r' hq
     subst hq
     exact Option.some.inj h
    rintro ⟨⟩ rfl
    have hh := Option.some.inj h
    subst hh
    exact And.intro rfl rfl
   ·
    replace h := iteF hc5 h
    refine NWp.condF (t := ((a0.Op == 6) || (a0.Op == 7))) rfl hc5 ?_
    have hh := Option.some.inj h
    subst hh
    refine NWp.norm (s0 := ⟨tab [], stab [], 0⟩) (nr []) ?_
    refine NWp.skip ?_
    exact And.intro rfl rfl
  ·
   intro r' hq
   subst hq
   exact Option.some.inj h
  rintro ⟨⟩ rfl
  show NWp _ _ _ _ _ ⟨tab [], stab [], 0⟩
  refine NWp.opsJ ⟨tab [(2, vb true)], stab [], 0⟩ ?_ ?_
  ·
   refine q1 _ ?_
   exact nR []
  have hh := Option.some.inj h
  subst hh
  refine NWp.ret ?_
  show FQ _ _ _ _
  exact FQ.mk1 (.inr rfl) (res_t (v := vb true) rfl rfl) (RV.d trivial)

theorem c_ref05_Predicate_f : ∀ (k : Nat) (a0 : api_Pol) (r : Bool), ref05_Predicate_f k a0 = some r → PCall Tryd.prog 56 [uapi_Pol a0] (.bool r)
 | 0, _, _, h => by cases h
 | k + 1, _, _, h => c_ref05_Predicate_s (c_ref05_Predicate_f k) h

theorem c_ref05_Predicate {a0 : api_Pol} {r : Bool} (h : ref05_Predicate a0 = some r) : PCall Tryd.prog 56 [uapi_Pol a0] (.bool r) := c_ref05_Predicate_f FUEL _ _ h

theorem c_ref05_formed_s {self : api_Pol → Int → Option Bool} (hself : ∀ (a0 : api_Pol) (a1 : Int) (r : Bool), self a0 a1 = some r → PCall Tryd.prog 50 [uapi_Pol a0, .int .i64 a1] (.bool r)) {a0 : api_Pol} {a1 : Int} {r : Bool} (h : ref05_formed_s self a0 a1 = some r) : PCall Tryd.prog 50 [uapi_Pol a0, .int .i64 a1] (.bool r) := by
 refine PCall.introN ok50 (show 2 ≤ 127 by decide) ?_
 refine NWp.norm (s0 := ⟨tab [(0, .d (uapi_Pol a0)), (1, vi a1)], stab [], 0⟩) (nr []) ?_
 refine NWp.opsJ ⟨tab [(1, vi a1), (2, vp3 a0)], stab [], 0⟩ ?_ ?_
 ·
  iterate 2 refine q1 _ ?_
  exact nR []
 refine NWp.opsJ ⟨tab [(1, vi a1), (2, vp3 a0), (5, vi (a0.Kids.length : Int))], stab [], 0⟩ ?_ ?_
 ·
  iterate 2 refine q1 _ ?_
  refine step (v := vi (a0.Kids.length : Int)) (st_len (xs := a0.Kids) (e := eapi_Pol) rfl) ?_
  refine q1 _ ?_
  exact nR []
 refine NWp.seq ?_
 refine NWp.opsJ ⟨tab [(1, vi a1), (2, vp3 a0), (5, vi (a0.Kids.length : Int)), (11, vi a0.Op)], stab [], 0⟩ ?_ ?_
 ·
  iterate 2 refine q1 _ ?_
  exact nR []
 refine NWp.block ?_
 obtain ⟨y2, hv, h⟩ := bindE h
 refine NWp.seqN ⟨tab [(1, vi a1), (2, vp3 a0), (5, vi (a0.Kids.length : Int)), (11, vi a0.Op), (12, vb y2)], stab [], 0⟩ ?_ ?_
 ·
  replace h := hv
  refine NWp.opsJ ⟨tab [(1, vi a1), (2, vp3 a0), (5, vi (a0.Kids.length : Int)), (11, vi a0.Op), (12, vb (a0.Op == 0))], stab [], 0⟩ ?_ ?_
  ·
   iterate 2 refine q1 _ ?_
   exact nR []
  by_cases hc1 : (a0.Op == 0) = true
  ·
   replace h := iteT hc1 h
   refine NWp.condT (t := (a0.Op == 0)) rfl hc1 ?_
   have hh := Option.some.inj h
   subst hh
   refine NWp.norm (s0 := ⟨tab [(1, vi a1), (2, vp3 a0), (5, vi (a0.Kids.length : Int)), (11, vi a0.Op), (12, vb (a0.Op == 0))], stab [], 0⟩) (nr []) ?_
   refine NWp.skip ?_
   exact And.intro rfl rfl
  ·
   replace h := iteF hc1 h
   refine NWp.condF (t := (a0.Op == 0)) rfl hc1 ?_
   have hh := Option.some.inj h
   subst hh
   refine NWp.opsE ⟨tab [(1, vi a1), (2, vp3 a0), (5, vi (a0.Kids.length : Int)), (11, vi a0.Op), (12, vb (a0.Op == 1))], stab [], 0⟩ ?_ ?_
   ·
    iterate 2 refine q1 _ ?_
    exact nR []
   exact And.intro rfl rfl
 by_cases hc4 : y2 = true
 ·
  replace h := iteT hc4 h
  refine NWp.condT (t := y2) rfl hc4 ?_
  refine NWp.opsJ ⟨tab [(4, vb (((a0.Kids.length : Int) == 0) && ((a0.F == 0) && (a0.N == 0))))], stab [], 0⟩ ?_ ?_
  ·
   iterate 3 refine q1 _ ?_
   by_cases hg5 : ((a0.Kids.length : Int) == 0) = true
   ·
    refine qG _ hg5 ?_
    refine q1 _ ?_
    refine qG _ hg5 ?_
    refine q1 _ ?_
    refine qG _ hg5 ?_
    refine q1 _ ?_
    refine step (v := vb (a0.F == 0)) (st_pickT (b := ((a0.Kids.length : Int) == 0)) rfl hg5 rfl) ?_
    refine q1 _ ?_
    by_cases hg6 : (a0.F == 0) = true
    ·
     refine qG _ hg6 ?_
     refine q1 _ ?_
     refine qG _ hg6 ?_
     refine q1 _ ?_
     refine qG _ hg6 ?_
     refine q1 _ ?_
     refine step (v := vb (a0.N == 0)) (st_pickT (b := (a0.F == 0)) rfl hg6 rfl) ?_
     refine q1 _ ?_
     exact RunOps.nil' (nm [] ⟨.eq (by first | (simp [hg5, hg6]; done) | (simp_all; done) | grind), trivial⟩ trivial)
    ·
     iterate 3 refine qX _ hg6 ?_
     refine step (v := vb false) (st_pickF (b := (a0.F == 0)) rfl hg6 rfl) ?_
     refine q1 _ ?_
     exact RunOps.nil' (nm [] ⟨.eq (by first | (simp [hg5, hg6]; done) | (simp_all; done) | grind), trivial⟩ trivial)
   ·
    iterate 3 refine qX _ hg5 ?_
    refine step (v := vb false) (st_pickF (b := ((a0.Kids.length : Int) == 0)) rfl hg5 rfl) ?_
    refine q1 _ ?_
    iterate 3 refine qX false (by decide) ?_
    refine step (v := vb false) (st_pickF (b := false) rfl (by decide) rfl) ?_
    refine q1 _ ?_
    exact RunOps.nil' (nm [] ⟨.eq (by first | (simp [hg5]; done) | (simp_all; done) | grind), trivial⟩ trivial)
  have hh := Option.some.inj h
  subst hh
  refine NWp.ret ?_
  show FQ _ _ _ _
  exact FQ.mk1 (.inr rfl) (res_t (v := vb (((a0.Kids.length : Int) == 0) && ((a0.F == 0) && (a0.N == 0)))) rfl rfl) (RV.d trivial)
 ·
  replace h := iteF hc4 h
  refine NWp.condF (t := y2) rfl hc4 ?_
  refine NWp.opsJ ⟨tab [(1, vi a1), (2, vp3 a0), (5, vi (a0.Kids.length : Int)), (11, vi a0.Op), (27, vb (a0.Op == 2))], stab [], 0⟩ ?_ ?_
  ·
   iterate 2 refine q1 _ ?_
   exact nR []
  by_cases hc7 : (a0.Op == 2) = true
  ·
   replace h := iteT hc7 h
   refine NWp.condT (t := (a0.Op == 2)) rfl hc7 ?_
   refine NWp.opsJ ⟨tab [(4, vb (((a0.Kids.length : Int) == 0) && ((decide (a0.F ≥ 0)) && (decide (a0.F < 8)))))], stab [], 0⟩ ?_ ?_
   ·
    iterate 3 refine q1 _ ?_
    by_cases hg8 : ((a0.Kids.length : Int) == 0) = true
    ·
     refine qG _ hg8 ?_
     refine q1 _ ?_
     refine qG _ hg8 ?_
     refine q1 _ ?_
     refine qG _ hg8 ?_
     refine q1 _ ?_
     refine step (v := vb (decide (a0.F ≥ 0))) (st_pickT (b := ((a0.Kids.length : Int) == 0)) rfl hg8 rfl) ?_
     refine q1 _ ?_
     by_cases hg9 : decide (a0.F ≥ 0) = true
     ·
      refine qG _ hg9 ?_
      refine q1 _ ?_
      refine qG _ hg9 ?_
      refine q1 _ ?_
      refine qG _ hg9 ?_
      refine q1 _ ?_
      refine step (v := vb (decide (a0.F < 8))) (st_pickT (b := decide (a0.F ≥ 0)) rfl hg9 rfl) ?_
      refine q1 _ ?_
      exact RunOps.nil' (nm [] ⟨.eq (by first | (simp [hg8, hg9]; done) | (simp_all; done) | grind), trivial⟩ trivial)
     ·
      iterate 3 refine qX _ hg9 ?_
      refine step (v := vb false) (st_pickF (b := decide (a0.F ≥ 0)) rfl hg9 rfl) ?_
      refine q1 _ ?_
      exact RunOps.nil' (nm [] ⟨.eq (by first | (simp [hg8, hg9]; done) | (simp_all; done) | grind), trivial⟩ trivial)
    ·
     iterate 3 refine qX _ hg8 ?_
     refine step (v := vb false) (st_pickF (b := ((a0.Kids.length : Int) == 0)) rfl hg8 rfl) ?_
     refine q1 _ ?_
     iterate 3 refine qX false (by decide) ?_
     refine step (v := vb false) (st_pickF (b := false) rfl (by decide) rfl) ?_
     refine q1 _ ?_
     exact RunOps.nil' (nm [] ⟨.eq (by first | (simp [hg8]; done) | (simp_all; done) | grind), trivial⟩ trivial)
   have hh := Option.some.inj h
   subst hh
   refine NWp.ret ?_
   show FQ _ _ _ _
   exact FQ.mk1 (.inr rfl) (res_t (v := vb (((a0.Kids.length : Int) == 0) && ((decide (a0.F ≥ 0)) && (decide (a0.F < 8))))) rfl rfl) (RV.d trivial)
  ·
   replace h := iteF hc7 h
   refine NWp.condF (t := (a0.Op == 2)) rfl hc7 ?_
   refine NWp.opsJ ⟨tab [(1, vi a1), (2, vp3 a0), (5, vi (a0.Kids.length : Int)), (11, vi a0.Op), (41, vb (a0.Op == 3))], stab [], 0⟩ ?_ ?_
   ·
    iterate 2 refine q1 _ ?_
    exact nR []
   by_cases hc10 : (a0.Op == 3) = true
   ·
    replace h := iteT hc10 h
    refine NWp.condT (t := (a0.Op == 3)) rfl hc10 ?_
    refine NWp.opsJ ⟨tab [(4, vb (((a0.Kids.length : Int) == 0) && ((decide (a0.F ≥ 0)) && (decide (a0.F < a1)))))], stab [], 0⟩ ?_ ?_
    ·
     iterate 3 refine q1 _ ?_
     by_cases hg11 : ((a0.Kids.length : Int) == 0) = true
     ·
      refine qG _ hg11 ?_
      refine q1 _ ?_
      refine qG _ hg11 ?_
      refine q1 _ ?_
      refine qG _ hg11 ?_
      refine q1 _ ?_
      refine step (v := vb (decide (a0.F ≥ 0))) (st_pickT (b := ((a0.Kids.length : Int) == 0)) rfl hg11 rfl) ?_
      refine q1 _ ?_
      by_cases hg12 : decide (a0.F ≥ 0) = true
      ·
       refine qG _ hg12 ?_
       refine q1 _ ?_
       refine qG _ hg12 ?_
       refine q1 _ ?_
       refine qG _ hg12 ?_
       refine q1 _ ?_
       refine qG _ hg12 ?_
       refine q1 _ ?_
       refine step (v := vb (decide (a0.F < a1))) (st_pickT (b := decide (a0.F ≥ 0)) rfl hg12 rfl) ?_
       refine q1 _ ?_
       exact RunOps.nil' (nm [] ⟨.eq (by first | (simp [hg11, hg12]; done) | (simp_all; done) | grind), trivial⟩ trivial)
      ·
       iterate 4 refine qX _ hg12 ?_
       refine step (v := vb false) (st_pickF (b := decide (a0.F ≥ 0)) rfl hg12 rfl) ?_
       refine q1 _ ?_
       exact RunOps.nil' (nm [] ⟨.eq (by first | (simp [hg11, hg12]; done) | (simp_all; done) | grind), trivial⟩ trivial)
     ·
      iterate 3 refine qX _ hg11 ?_
      refine step (v := vb false) (st_pickF (b := ((a0.Kids.length : Int) == 0)) rfl hg11 rfl) ?_
      refine q1 _ ?_
      iterate 4 refine qX false (by decide) ?_
      refine step (v := vb false) (st_pickF (b := false) rfl (by decide) rfl) ?_
      refine q1 _ ?_
      exact RunOps.nil' (nm [] ⟨.eq (by first | (simp [hg11]; done) | (simp_all; done) | grind), trivial⟩ trivial)
    have hh := Option.some.inj h
    subst hh
    refine NWp.ret ?_
    show FQ _ _ _ _
    exact FQ.mk1 (.inr rfl) (res_t (v := vb (((a0.Kids.length : Int) == 0) && ((decide (a0.F ≥ 0)) && (decide (a0.F < a1))))) rfl rfl) (RV.d trivial)
   ·
    replace h := iteF hc10 h
    refine NWp.condF (t := (a0.Op == 3)) rfl hc10 ?_
    refine NWp.opsJ ⟨tab [(1, vi a1), (2, vp3 a0), (5, vi (a0.Kids.length : Int)), (11, vi a0.Op), (56, vb (a0.Op == 5))], stab [], 0⟩ ?_ ?_
    ·
     iterate 2 refine q1 _ ?_
     exact nR []
    by_cases hc13 : (a0.Op == 5) = true
    ·
     replace h := iteT hc13 h
     refine NWp.condT (t := (a0.Op == 5)) rfl hc13 ?_
     refine NWp.opsJ ⟨tab [(4, vb (((a0.Kids.length : Int) == 0) && ((decide (a0.F ≥ 1)) && (decide (a0.F < 8)))))], stab [], 0⟩ ?_ ?_
     ·
      iterate 3 refine q1 _ ?_
      by_cases hg14 : ((a0.Kids.length : Int) == 0) = true
      ·
       refine qG _ hg14 ?_
       refine q1 _ ?_
       refine qG _ hg14 ?_
       refine q1 _ ?_
       refine qG _ hg14 ?_
       refine q1 _ ?_
       refine step (v := vb (decide (a0.F ≥ 1))) (st_pickT (b := ((a0.Kids.length : Int) == 0)) rfl hg14 rfl) ?_
       refine q1 _ ?_
       by_cases hg15 : decide (a0.F ≥ 1) = true
       ·
        refine qG _ hg15 ?_
        refine q1 _ ?_
        refine qG _ hg15 ?_
        refine q1 _ ?_
        refine qG _ hg15 ?_
        refine q1 _ ?_
        refine step (v := vb (decide (a0.F < 8))) (st_pickT (b := decide (a0.F ≥ 1)) rfl hg15 rfl) ?_
        refine q1 _ ?_
        exact RunOps.nil' (nm [] ⟨.eq (by first | (simp [hg14, hg15]; done) | (simp_all; done) | grind), trivial⟩ trivial)
       ·
        iterate 3 refine qX _ hg15 ?_
        refine step (v := vb false) (st_pickF (b := decide (a0.F ≥ 1)) rfl hg15 rfl) ?_
        refine q1 _ ?_
        exact RunOps.nil' (nm [] ⟨.eq (by first | (simp [hg14, hg15]; done) | (simp_all; done) | grind), trivial⟩ trivial)
      ·
       iterate 3 refine qX _ hg14 ?_
       refine step (v := vb false) (st_pickF (b := ((a0.Kids.length : Int) == 0)) rfl hg14 rfl) ?_
       refine q1 _ ?_
       iterate 3 refine qX false (by decide) ?_
       refine step (v := vb false) (st_pickF (b := false) rfl (by decide) rfl) ?_
       refine q1 _ ?_
       exact RunOps.nil' (nm [] ⟨.eq (by first | (simp [hg14]; done) | (simp_all; done) | grind), trivial⟩ trivial)
     have hh := Option.some.inj h
     subst hh
     refine NWp.ret ?_
     show FQ _ _ _ _
     exact FQ.mk1 (.inr rfl) (res_t (v := vb (((a0.Kids.length : Int) == 0) && ((decide (a0.F ≥ 1)) && (decide (a0.F < 8))))) rfl rfl) (RV.d trivial)
    ·
     replace h := iteF hc13 h
     refine NWp.condF (t := (a0.Op == 5)) rfl hc13 ?_
     refine NWp.opsJ ⟨tab [(1, vi a1), (2, vp3 a0), (5, vi (a0.Kids.length : Int)), (11, vi a0.Op), (70, vb (a0.Op == 4))], stab [], 0⟩ ?_ ?_
     ·
      iterate 2 refine q1 _ ?_
      exact nR []
     by_cases hc16 : (a0.Op == 4) = true
     ·
      replace h := iteT hc16 h
      refine NWp.condT (t := (a0.Op == 4)) rfl hc16 ?_
      obtain ⟨y24, hv, h⟩ := bindE h
      refine NWp.opsJ ⟨tab [(4, vb y24)], stab [], 0⟩ ?_ ?_
      ·
       iterate 3 refine q1 _ ?_
       by_cases hg17 : ((a0.Kids.length : Int) == 1) = true
       ·
        replace hv := iteT hg17 hv
        refine qG _ hg17 ?_
        refine q1 _ ?_
        refine qG _ hg17 ?_
        refine q1 _ ?_
        refine qG _ hg17 ?_
        refine q1 _ ?_
        refine step (v := vb (a0.F == 0)) (st_pickT (b := ((a0.Kids.length : Int) == 1)) rfl hg17 rfl) ?_
        refine q1 _ ?_
        by_cases hg18 : (a0.F == 0) = true
        ·
         replace hv := iteT hg18 hv
         refine qG _ hg18 ?_
         refine q1 _ ?_
         refine qG _ hg18 ?_
         refine q1 _ ?_
         refine qG _ hg18 ?_
         refine q1 _ ?_
         refine step (v := vb (a0.N == 0)) (st_pickT (b := (a0.F == 0)) rfl hg18 rfl) ?_
         refine q1 _ ?_
         by_cases hg19 : (a0.N == 0) = true
         ·
          replace hv := iteT hg19 hv
          obtain ⟨x20, hx20, hv⟩ := bindE hv
          obtain ⟨r21, hr21, hv⟩ := bindE hv
          refine qG _ hg19 ?_
          refine q1 _ ?_
          refine qG _ hg19 ?_
          refine q1 _ ?_
          refine qG _ hg19 ?_
          refine step (v := vp3 x20) (st_iaddrU (xs := a0.Kids) (e := eapi_Pol) hx20 rfl rfl (eu_api_Pol _)) ?_
          refine qG _ hg19 ?_
          refine q1 _ ?_
          refine qG _ hg19 ?_
          refine stepC (r := .bool r21) (ArgsOk.dt ArgsOk.nil') (c_ref05_Predicate hr21) ?_
          refine step (v := vb r21) (st_pickT (b := (a0.N == 0)) rfl hg19 rfl) ?_
          refine q1 _ ?_
          by_cases hg22 : r21 = true
          ·
           replace hv := iteT hg22 hv
           obtain ⟨r23, hr23, hv⟩ := bindE hv
           refine qG _ hg22 ?_
           refine q1 _ ?_
           refine qG _ hg22 ?_
           refine q1 _ ?_
           refine qG _ hg22 ?_
           refine step (v := vp3 x20) (st_iaddrU (xs := a0.Kids) (e := eapi_Pol) hx20 rfl rfl (eu_api_Pol _)) ?_
           refine qG _ hg22 ?_
           refine q1 _ ?_
           refine qG _ hg22 ?_
           refine q1 _ ?_
           refine qG _ hg22 ?_
           refine stepC (r := .bool r23) (ArgsOk.dt (ArgsOk.dt ArgsOk.nil')) (hself _ _ _ hr23) ?_
           refine step (v := vb r23) (st_pickT (b := r21) rfl hg22 rfl) ?_
           refine q1 _ ?_
           have hh := Option.some.inj hv
           subst hh
           exact nR []
          ·
           replace hv := iteF hg22 hv
           iterate 6 refine qX _ hg22 ?_
           refine step (v := vb false) (st_pickF (b := r21) rfl hg22 rfl) ?_
           refine q1 _ ?_
           have hh := Option.some.inj hv
           subst hh
           exact nR []
         ·
          replace hv := iteF hg19 hv
          iterate 5 refine qX _ hg19 ?_
          refine step (v := vb false) (st_pickF (b := (a0.N == 0)) rfl hg19 rfl) ?_
          refine q1 _ ?_
          iterate 6 refine qX false (by decide) ?_
          refine step (v := vb false) (st_pickF (b := false) rfl (by decide) rfl) ?_
          refine q1 _ ?_
          have hh := Option.some.inj hv
          subst hh
          exact nR []
        ·
         replace hv := iteF hg18 hv
         iterate 3 refine qX _ hg18 ?_
         refine step (v := vb false) (st_pickF (b := (a0.F == 0)) rfl hg18 rfl) ?_
         refine q1 _ ?_
         iterate 5 refine qX false (by decide) ?_
         refine step (v := vb false) (st_pickF (b := false) rfl (by decide) rfl) ?_
         refine q1 _ ?_
         iterate 6 refine qX false (by decide) ?_
         refine step (v := vb false) (st_pickF (b := false) rfl (by decide) rfl) ?_
         refine q1 _ ?_
         have hh := Option.some.inj hv
         subst hh
         exact nR []
       ·
        replace hv := iteF hg17 hv
        iterate 3 refine qX _ hg17 ?_
        refine step (v := vb false) (st_pickF (b := ((a0.Kids.length : Int) == 1)) rfl hg17 rfl) ?_
        refine q1 _ ?_
        iterate 3 refine qX false (by decide) ?_
        refine step (v := vb false) (st_pickF (b := false) rfl (by decide) rfl) ?_
        refine q1 _ ?_
        iterate 5 refine qX false (by decide) ?_
        refine step (v := vb false) (st_pickF (b := false) rfl (by decide) rfl) ?_
        refine q1 _ ?_
        iterate 6 refine qX false (by decide) ?_
        refine step (v := vb false) (st_pickF (b := false) rfl (by decide) rfl) ?_
        refine q1 _ ?_
        have hh := Option.some.inj hv
        subst hh
        exact nR []
      have hh := Option.some.inj h
      subst hh
      refine NWp.ret ?_
      show FQ _ _ _ _
      exact FQ.mk1 (.inr rfl) (res_t (v := vb y24) rfl rfl) (RV.d trivial)
     ·
      replace h := iteF hc16 h
      refine NWp.condF (t := (a0.Op == 4)) rfl hc16 ?_
      obtain ⟨y27, hv, h⟩ := bindE h
      refine NWp.seqN ⟨tab [(1, vi a1), (2, vp3 a0), (5, vi (a0.Kids.length : Int)), (99, vb y27)], stab [], 0⟩ ?_ ?_
      ·
       replace h := hv
       refine NWp.opsJ ⟨tab [(1, vi a1), (2, vp3 a0), (5, vi (a0.Kids.length : Int)), (11, vi a0.Op), (99, vb (a0.Op == 6))], stab [], 0⟩ ?_ ?_
       ·
        iterate 2 refine q1 _ ?_
        exact nR []
       by_cases hc26 : (a0.Op == 6) = true
       ·
        replace h := iteT hc26 h
        refine NWp.condT (t := (a0.Op == 6)) rfl hc26 ?_
        have hh := Option.some.inj h
        subst hh
        refine NWp.norm (s0 := ⟨tab [(1, vi a1), (2, vp3 a0), (5, vi (a0.Kids.length : Int)), (99, vb (a0.Op == 6))], stab [], 0⟩) (nr []) ?_
        refine NWp.skip ?_
        exact And.intro rfl rfl
       ·
        replace h := iteF hc26 h
        refine NWp.condF (t := (a0.Op == 6)) rfl hc26 ?_
        have hh := Option.some.inj h
        subst hh
        refine NWp.opsE ⟨tab [(1, vi a1), (2, vp3 a0), (5, vi (a0.Kids.length : Int)), (99, vb (a0.Op == 7))], stab [], 0⟩ ?_ ?_
        ·
         iterate 2 refine q1 _ ?_
         exact nR []
        exact And.intro rfl rfl
      by_cases hc29 : y27 = true
      ·
       replace h := iteT hc29 h
       refine NWp.condT (t := y27) rfl hc29 ?_
       refine NWp.seq ?_
       refine NWp.opsJ ⟨tab [(1, vi a1), (2, vp3 a0), (5, vi (a0.Kids.length : Int)), (113, vb ((decide ((a0.Kids.length : Int) < 2)) || ((a0.F != 0) || (a0.N != 0))))], stab [], 0⟩ ?_ ?_
       ·
        iterate 3 refine q1 _ ?_
        by_cases hg30 : decide ((a0.Kids.length : Int) < 2) = true
        ·
         iterate 3 refine qX (decide ((a0.Kids.length : Int) < 2)) (by rw [hg30]; decide) ?_
         refine step (v := vb true) (st_pickT (b := decide ((a0.Kids.length : Int) < 2)) rfl hg30 rfl) ?_
         refine q1 _ ?_
         iterate 3 refine qX true (by decide) ?_
         refine step (v := vb true) (st_pickT (b := true) rfl rfl rfl) ?_
         exact RunOps.nil' (nm [] ⟨.d _, .d _, .d _, .eq (by first | (simp [hg30]; done) | (simp_all; done) | grind), trivial⟩ trivial)
        ·
         refine qG (decide ((a0.Kids.length : Int) < 2)) (Bool.eq_false_iff.2 hg30) ?_
         refine q1 _ ?_
         refine qG (decide ((a0.Kids.length : Int) < 2)) (Bool.eq_false_iff.2 hg30) ?_
         refine q1 _ ?_
         refine qG (decide ((a0.Kids.length : Int) < 2)) (Bool.eq_false_iff.2 hg30) ?_
         refine q1 _ ?_
         refine step (v := vb (a0.F != 0)) (st_pickF (b := decide ((a0.Kids.length : Int) < 2)) rfl hg30 rfl) ?_
         refine q1 _ ?_
         by_cases hg31 : (a0.F != 0) = true
         ·
          iterate 3 refine qX (a0.F != 0) (by rw [hg31]; decide) ?_
          refine step (v := vb true) (st_pickT (b := (a0.F != 0)) rfl hg31 rfl) ?_
          exact RunOps.nil' (nm [] ⟨.d _, .d _, .d _, .eq (by first | (simp [hg30, hg31]; done) | (simp_all; done) | grind), trivial⟩ trivial)
         ·
          refine qG (a0.F != 0) (Bool.eq_false_iff.2 hg31) ?_
          refine q1 _ ?_
          refine qG (a0.F != 0) (Bool.eq_false_iff.2 hg31) ?_
          refine q1 _ ?_
          refine qG (a0.F != 0) (Bool.eq_false_iff.2 hg31) ?_
          refine q1 _ ?_
          refine step (v := vb (a0.N != 0)) (st_pickF (b := (a0.F != 0)) rfl hg31 rfl) ?_
          exact RunOps.nil' (nm [] ⟨.d _, .d _, .d _, .eq (by first | (simp [hg30, hg31]; done) | (simp_all; done) | grind), trivial⟩ trivial)
       by_cases hc32 : ((decide ((a0.Kids.length : Int) < 2)) || ((a0.F != 0) || (a0.N != 0))) = true
       ·
        replace h := iteT hc32 h
        refine NWp.condT (t := ((decide ((a0.Kids.length : Int) < 2)) || ((a0.F != 0) || (a0.N != 0)))) rfl hc32 ?_
        refine NWp.opsJ ⟨tab [(4, vb false)], stab [], 0⟩ ?_ ?_
        ·
         refine q1 _ ?_
         exact nR []
        have hh := Option.some.inj h
        subst hh
        refine NWp.ret ?_
        show FQ _ _ _ _
        exact FQ.mk1 (.inr rfl) (res_t (v := vb false) rfl rfl) (RV.d trivial)
       ·
        replace h := iteF hc32 h
        refine NWp.condF (t := ((decide ((a0.Kids.length : Int) < 2)) || ((a0.F != 0) || (a0.N != 0)))) rfl hc32 ?_
        refine NWp.skip ?_
        refine NWp.seq ?_
        refine NWp.opsJ ⟨tab [(1, vi a1), (2, vp3 a0), (5, vi (a0.Kids.length : Int)), (6, vi 0)], stab [], 0⟩ ?_ ?_
        ·
         refine q1 _ ?_
         exact nR []
        obtain ⟨q42, hl, h⟩ := bindE h
        refine NWp.block ?_
        refine loop_forR (cntU (a0.Kids.length : Int)) (fun (i33 : Int) (qq : Unit) => ⟨tab [(1, vi a1), (2, vp3 a0), (5, vi (a0.Kids.length : Int)), (6, vi i33)], stab [], 0⟩) 1 (fun (qq : Unit) => ⟨tab [], stab [], 0⟩) Low low_step (r := r) hl (by unfold Low; omega) ?_ ?_ ?_ ?_
        ·
         rintro i33 ⟨⟩ xr38 hinv36 hgo35 h
         show NWp _ _ _ _ _ ⟨tab [(1, vi a1), (2, vp3 a0), (5, vi (a0.Kids.length : Int)), (6, vi i33)], stab [], 0⟩
         have hc37 : decide (i33 < (a0.Kids.length : Int)) = true := decide_eq_true hgo35
         refine NWp.seq ?_
         refine NWp.opsJ ⟨tab [(1, vi a1), (2, vp3 a0), (5, vi (a0.Kids.length : Int)), (6, vi i33), (115, vi (a0.Kids.length : Int)), (116, vb (decide (i33 < (a0.Kids.length : Int))))], stab [], 0⟩ ?_ ?_
         ·
          iterate 3 refine q1 _ ?_
          exact nR []
         refine NWp.rng 115 rfl fun hB34 => ?_
         refine NWp.condT (t := decide (i33 < (a0.Kids.length : Int))) rfl hc37 ?_
         refine NWp.skip ?_
         refine NWp.seq ?_
         refine NWp.block ?_
         obtain ⟨x39, hx39, h⟩ := bindE h
         obtain ⟨r40, hr40, h⟩ := bindE h
         refine NWp.opsJ ⟨tab [(1, vi a1), (2, vp3 a0), (5, vi (a0.Kids.length : Int)), (6, vi i33), (126, vb (!r40))], stab [], 0⟩ ?_ ?_
         ·
          iterate 3 refine q1 _ ?_
          refine step (v := vp3 x39) (st_iaddrU (xs := a0.Kids) (e := eapi_Pol) hx39 rfl rfl (eu_api_Pol _)) ?_
          iterate 2 refine q1 _ ?_
          refine stepC (r := .bool r40) (ArgsOk.dt (ArgsOk.dt ArgsOk.nil')) (hself _ _ _ hr40) ?_
          refine q1 _ ?_
          exact nR []
         by_cases hc41 : (!r40) = true
         ·
          replace h := iteT hc41 h
          refine NWp.condT (t := (!r40)) rfl hc41 ?_
          refine NWp.opsJ ⟨tab [(4, vb false)], stab [], 0⟩ ?_ ?_
          ·
           refine q1 _ ?_
           exact nR []
          obtain ⟨r42, kr42, hr⟩ := mapE (o := some false) (g := Br.ret) h
          subst hr
          have h := kr42
          have hh := Option.some.inj h
          subst hh
          refine NWp.ret ?_
          refine And.intro (fun hn => nomatch hn) ?_
          intro hq
          have hq := hq.symm
          subst hq
          show FQ _ _ _ _
          exact FQ.mk1 (.inr rfl) (res_t (v := vb false) rfl rfl) (RV.d trivial)
         ·
          replace h := iteF hc41 h
          refine NWp.condF (t := (!r40)) rfl hc41 ?_
          refine NWp.skip ?_
          have hh := Option.some.inj h
          subst hh
          refine NWp.opsE ⟨tab [(1, vi a1), (2, vp3 a0), (5, vi (a0.Kids.length : Int)), (6, vi (i33 + 1))], stab [], 0⟩ ?_ ?_
          ·
           refine q1 _ ?_
           refine step (v := vi (i33 + 1)) (st_inc (inc_ok hinv36 hgo35 hB34) rfl rfl) ?_
           refine q1 _ ?_
           exact nR []
          exact And.intro rfl rfl
        ·
         rintro i33 ⟨⟩ hinv36 hgo35
         show NWp _ _ _ _ _ ⟨tab [(1, vi a1), (2, vp3 a0), (5, vi (a0.Kids.length : Int)), (6, vi i33)], stab [], 0⟩
         have hc37 : ¬ (decide (i33 < (a0.Kids.length : Int)) = true) := fun hq => hgo35 (of_decide_eq_true hq)
         refine NWp.seq ?_
         refine NWp.opsJ ⟨tab [(1, vi a1), (2, vp3 a0), (5, vi (a0.Kids.length : Int)), (6, vi i33), (116, vb (decide (i33 < (a0.Kids.length : Int))))], stab [], 0⟩ ?_ ?_
         ·
          iterate 3 refine q1 _ ?_
          exact nR []
         refine NWp.condF (t := decide (i33 < (a0.Kids.length : Int))) rfl hc37 ?_
         refine NWp.norm (s0 := ⟨tab [], stab [], 0⟩) (nr []) ?_
         refine NWp.exit ?_
         exact And.intro rfl rfl
        ·
         intro r' hq
         subst hq
         exact Option.some.inj h
        rintro ⟨⟩ rfl
        refine NWp.opsJ ⟨tab [(4, vb true)], stab [], 0⟩ ?_ ?_
        ·
         refine q1 _ ?_
         exact nR []
        have hh := Option.some.inj h
        subst hh
        refine NWp.ret ?_
        show FQ _ _ _ _
        exact FQ.mk1 (.inr rfl) (res_t (v := vb true) rfl rfl) (RV.d trivial)
      ·
       replace h := iteF hc29 h
       refine NWp.condF (t := y27) rfl hc29 ?_
       refine NWp.skip ?_
       refine NWp.opsJ ⟨tab [(4, vb false)], stab [], 0⟩ ?_ ?_
       ·
        refine q1 _ ?_
        exact nR []
       have hh := Option.some.inj h
       subst hh
       refine NWp.ret ?_
       show FQ _ _ _ _
       exact FQ.mk1 (.inr rfl) (res_t (v := vb false) rfl rfl) (RV.d trivial)

theorem c_ref05_formed_f : ∀ (k : Nat) (a0 : api_Pol) (a1 : Int) (r : Bool), ref05_formed_f k a0 a1 = some r → PCall Tryd.prog 50 [uapi_Pol a0, .int .i64 a1] (.bool r)
 | 0, _, _, _, h => by cases h
 | k + 1, _, _, _, h => c_ref05_formed_s (c_ref05_formed_f k) h

theorem c_ref05_formed {a0 : api_Pol} {a1 : Int} {r : Bool} (h : ref05_formed a0 a1 = some r) : PCall Tryd.prog 50 [uapi_Pol a0, .int .i64 a1] (.bool r) := c_ref05_formed_f FUEL _ _ _ h

theorem c_ref05_rising {a0 : (List api_Pair)} {a1 : Int} {r : Bool} (h : ref05_rising a0 a1 = some r) : PCall Tryd.prog 51 [eL (some 2) eapi_Pair a0, .int .i64 a1] (.bool r) := by
 refine PCall.introN ok51 (show 2 ≤ 45 by decide) ?_
 refine NWp.norm (s0 := ⟨tab [(0, vl6 a0), (1, vi a1)], stab [], 0⟩) (nr []) ?_
 refine NWp.opsJ ⟨tab [(0, vl6 a0), (1, vi a1)], stab [], 0⟩ ?_ ?_
 ·
  refine q1 _ ?_
  exact nR []
 refine NWp.seq ?_
 refine NWp.opsJ ⟨tab [(0, vl6 a0), (1, vi a1), (5, vi 0)], stab [], 0⟩ ?_ ?_
 ·
  refine q1 _ ?_
  exact nR []
 obtain ⟨q15, hl, h⟩ := bindE h
 refine NWp.block ?_
 refine loop_forR (cntU (a0.length : Int)) (fun (i1 : Int) (qq : Unit) => ⟨tab [(0, vl6 a0), (1, vi a1), (5, vi i1)], stab [], 0⟩) 0 (fun (qq : Unit) => ⟨tab [], stab [], 0⟩) Low low_step (r := r) hl (by unfold Low; omega) ?_ ?_ ?_ ?_
 ·
  rintro i1 ⟨⟩ xr6 hinv4 hgo3 h
  show NWp _ _ _ _ _ ⟨tab [(0, vl6 a0), (1, vi a1), (5, vi i1)], stab [], 0⟩
  have hc5 : decide (i1 < (a0.length : Int)) = true := decide_eq_true hgo3
  refine NWp.seq ?_
  refine NWp.opsJ ⟨tab [(0, vl6 a0), (1, vi a1), (5, vi i1), (8, vi (a0.length : Int)), (9, vb (decide (i1 < (a0.length : Int))))], stab [], 0⟩ ?_ ?_
  ·
   iterate 2 refine q1 _ ?_
   refine step (v := vi (a0.length : Int)) (st_len (xs := a0) (e := eapi_Pair) rfl) ?_
   refine q1 _ ?_
   exact nR []
  refine NWp.rng 8 rfl fun hB2 => ?_
  refine NWp.condT (t := decide (i1 < (a0.length : Int))) rfl hc5 ?_
  refine NWp.skip ?_
  refine NWp.seq ?_
  refine NWp.block ?_
  obtain ⟨x7, hx7, h⟩ := bindE h
  obtain ⟨y12, hv, h⟩ := bindE h
  refine NWp.opsJ ⟨tab [(0, vl6 a0), (1, vi a1), (5, vi i1), (44, vb y12)], stab [], 0⟩ ?_ ?_
  ·
   iterate 2 refine q1 _ ?_
   refine step (v := vp7 x7) (st_iaddr (xs := a0) (e := eapi_Pair) hx7 rfl rfl) ?_
   iterate 4 refine q1 _ ?_
   by_cases hg8 : decide (x7.F < 0) = true
   ·
    replace hv := iteT hg8 hv
    iterate 7 refine qX (decide (x7.F < 0)) (by rw [hg8]; decide) ?_
    refine step (v := vb true) (st_pickT (b := decide (x7.F < 0)) rfl hg8 rfl) ?_
    refine q1 _ ?_
    iterate 3 refine qX true (by decide) ?_
    refine stepXX rfl ?_
    refine stepXX rfl ?_
    refine stepXX rfl ?_
    refine stepXX rfl ?_
    refine stepXX rfl ?_
    refine stepXX rfl ?_
    refine stepXX rfl ?_
    refine stepXX rfl ?_
    refine stepXX rfl ?_
    refine stepXX rfl ?_
    refine stepXX rfl ?_
    refine stepXX rfl ?_
    refine qX true (by decide) ?_
    refine step (v := vb true) (st_pickT (b := true) rfl rfl rfl) ?_
    have hh := Option.some.inj hv
    subst hh
    exact nR []
   ·
    replace hv := iteF hg8 hv
    refine qG (decide (x7.F < 0)) (Bool.eq_false_iff.2 hg8) ?_
    refine q1 _ ?_
    refine qG (decide (x7.F < 0)) (Bool.eq_false_iff.2 hg8) ?_
    refine q1 _ ?_
    refine qG (decide (x7.F < 0)) (Bool.eq_false_iff.2 hg8) ?_
    refine step (v := vp7 x7) (st_iaddr (xs := a0) (e := eapi_Pair) hx7 rfl rfl) ?_
    refine qG (decide (x7.F < 0)) (Bool.eq_false_iff.2 hg8) ?_
    refine q1 _ ?_
    refine qG (decide (x7.F < 0)) (Bool.eq_false_iff.2 hg8) ?_
    refine q1 _ ?_
    refine qG (decide (x7.F < 0)) (Bool.eq_false_iff.2 hg8) ?_
    refine q1 _ ?_
    refine qG (decide (x7.F < 0)) (Bool.eq_false_iff.2 hg8) ?_
    refine q1 _ ?_
    refine step (v := vb (decide (x7.F ≥ a1))) (st_pickF (b := decide (x7.F < 0)) rfl hg8 rfl) ?_
    refine q1 _ ?_
    by_cases hg9 : decide (x7.F ≥ a1) = true
    ·
     replace hv := iteT hg9 hv
     iterate 3 refine qX (decide (x7.F ≥ a1)) (by rw [hg9]; decide) ?_
     refine stepXX rfl ?_
     refine stepXX rfl ?_
     refine stepXX rfl ?_
     refine stepXX rfl ?_
     refine stepXX rfl ?_
     refine stepXX rfl ?_
     refine stepXX rfl ?_
     refine stepXX rfl ?_
     refine stepXX rfl ?_
     refine stepXX rfl ?_
     refine stepXX rfl ?_
     refine stepXX rfl ?_
     refine qX (decide (x7.F ≥ a1)) (by rw [hg9]; decide) ?_
     refine step (v := vb true) (st_pickT (b := decide (x7.F ≥ a1)) rfl hg9 rfl) ?_
     have hh := Option.some.inj hv
     subst hh
     exact nR []
    ·
     replace hv := iteF hg9 hv
     refine qG (decide (x7.F ≥ a1)) (Bool.eq_false_iff.2 hg9) ?_
     refine q1 _ ?_
     refine qG (decide (x7.F ≥ a1)) (Bool.eq_false_iff.2 hg9) ?_
     refine q1 _ ?_
     refine qG (decide (x7.F ≥ a1)) (Bool.eq_false_iff.2 hg9) ?_
     refine q1 _ ?_
     by_cases hg10 : decide (i1 > 0) = true
     ·
      replace hv := iteT hg10 hv
      obtain ⟨x11, hx11, hv⟩ := bindE hv
      refine qG _ hg10 ?_
      refine q1 _ ?_
      refine qG _ hg10 ?_
      refine q1 _ ?_
      refine qG _ hg10 ?_
      refine q1 _ ?_
      refine qG _ hg10 ?_
      refine step (v := vp7 x11) (st_iaddr (xs := a0) (e := eapi_Pair) hx11 rfl rfl) ?_
      refine qG _ hg10 ?_
      refine q1 _ ?_
      refine qG _ hg10 ?_
      refine q1 _ ?_
      refine qG _ hg10 ?_
      refine q1 _ ?_
      refine qG _ hg10 ?_
      refine q1 _ ?_
      refine qG _ hg10 ?_
      refine step (v := vp7 x7) (st_iaddr (xs := a0) (e := eapi_Pair) hx7 rfl rfl) ?_
      refine qG _ hg10 ?_
      refine q1 _ ?_
      refine qG _ hg10 ?_
      refine q1 _ ?_
      refine qG _ hg10 ?_
      refine q1 _ ?_
      refine qG (decide (x7.F ≥ a1)) (Bool.eq_false_iff.2 hg9) ?_
      refine step (v := vb (decide (x11.F ≥ x7.F))) (st_pickT (b := decide (i1 > 0)) rfl hg10 rfl) ?_
      refine step (v := vb (decide (x11.F ≥ x7.F))) (st_pickF (b := decide (x7.F ≥ a1)) rfl hg9 rfl) ?_
      have hh := Option.some.inj hv
      subst hh
      exact nR []
     ·
      replace hv := iteF hg10 hv
      iterate 12 refine qX _ hg10 ?_
      refine qG (decide (x7.F ≥ a1)) (Bool.eq_false_iff.2 hg9) ?_
      refine step (v := vb false) (st_pickF (b := decide (i1 > 0)) rfl hg10 rfl) ?_
      refine step (v := vb false) (st_pickF (b := decide (x7.F ≥ a1)) rfl hg9 rfl) ?_
      have hh := Option.some.inj hv
      subst hh
      exact nR []
  by_cases hc14 : y12 = true
  ·
   replace h := iteT hc14 h
   refine NWp.condT (t := y12) rfl hc14 ?_
   refine NWp.opsJ ⟨tab [(4, vb false)], stab [], 0⟩ ?_ ?_
   ·
    refine q1 _ ?_
    exact nR []
   obtain ⟨r15, kr15, hr⟩ := mapE (o := some false) (g := Br.ret) h
   subst hr
   have h := kr15
   have hh := Option.some.inj h
   subst hh
   refine NWp.ret ?_
   refine And.intro (fun hn => nomatch hn) ?_
   intro hq
   have hq := hq.symm
   subst hq
   show FQ _ _ _ _
   exact FQ.mk1 (.inr rfl) (res_t (v := vb false) rfl rfl) (RV.d trivial)
  ·
   replace h := iteF hc14 h
   refine NWp.condF (t := y12) rfl hc14 ?_
   refine NWp.skip ?_
   have hh := Option.some.inj h
   subst hh
   refine NWp.opsE ⟨tab [(0, vl6 a0), (1, vi a1), (5, vi (i1 + 1))], stab [], 0⟩ ?_ ?_
   ·
    refine q1 _ ?_
    refine step (v := vi (i1 + 1)) (st_inc (inc_ok hinv4 hgo3 hB2) rfl rfl) ?_
    refine q1 _ ?_
    exact nR []
   exact And.intro rfl rfl
 ·
  rintro i1 ⟨⟩ hinv4 hgo3
  show NWp _ _ _ _ _ ⟨tab [(0, vl6 a0), (1, vi a1), (5, vi i1)], stab [], 0⟩
  have hc5 : ¬ (decide (i1 < (a0.length : Int)) = true) := fun hq => hgo3 (of_decide_eq_true hq)
  refine NWp.seq ?_
  refine NWp.opsJ ⟨tab [(0, vl6 a0), (1, vi a1), (5, vi i1), (9, vb (decide (i1 < (a0.length : Int))))], stab [], 0⟩ ?_ ?_
  ·
   iterate 2 refine q1 _ ?_
   refine step (v := vi (a0.length : Int)) (st_len (xs := a0) (e := eapi_Pair) rfl) ?_
   refine q1 _ ?_
   exact nR []
  refine NWp.condF (t := decide (i1 < (a0.length : Int))) rfl hc5 ?_
  refine NWp.norm (s0 := ⟨tab [], stab [], 0⟩) (nr []) ?_
  refine NWp.exit ?_
  exact And.intro rfl rfl
 ·
  intro r' hq
  subst hq
  exact Option.some.inj h
 rintro ⟨⟩ rfl
 refine NWp.opsJ ⟨tab [(4, vb true)], stab [], 0⟩ ?_ ?_
 ·
  refine q1 _ ?_
  exact nR []
 have hh := Option.some.inj h
 subst hh
 refine NWp.ret ?_
 show FQ _ _ _ _
 exact FQ.mk1 (.inr rfl) (res_t (v := vb true) rfl rfl) (RV.d trivial)

theorem c_ref05_Check {a0 : api_Program} {r : Int} (h : ref05_Check a0 = some r) : PCall Tryd.prog 33 [eapi_Program a0] (.int .i64 r) := by
 refine PCall.introN ok33 (show 1 ≤ 102 by decide) ?_
 refine NWp.norm (s0 := ⟨tab [(0, vs2 a0)], stab [], 0⟩) (nr []) ?_
 refine NWp.opsJ ⟨tab [(1, vp2 a0)], stab [], 0⟩ ?_ ?_
 ·
  iterate 2 refine q1 _ ?_
  exact nR []
 refine NWp.seq ?_
 obtain ⟨y7, hv, h⟩ := bindE h
 refine NWp.opsJ ⟨tab [(1, vp2 a0), (32, vb y7)], stab [], 0⟩ ?_ ?_
 ·
  iterate 2 refine q1 _ ?_
  refine step (v := vi (a0.Init.length : Int)) (st_len (xs := a0.Init) (e := (D.int .u16)) rfl) ?_
  iterate 2 refine q1 _ ?_
  by_cases hg1 : decide ((a0.Init.length : Int) < 1) = true
  ·
   replace hv := iteT hg1 hv
   iterate 4 refine qX (decide ((a0.Init.length : Int) < 1)) (by rw [hg1]; decide) ?_
   refine step (v := vb true) (st_pickT (b := decide ((a0.Init.length : Int) < 1)) rfl hg1 rfl) ?_
   refine q1 _ ?_
   iterate 4 refine qX true (by decide) ?_
   refine step (v := vb true) (st_pickT (b := true) rfl rfl rfl) ?_
   refine q1 _ ?_
   iterate 4 refine qX true (by decide) ?_
   refine step (v := vb true) (st_pickT (b := true) rfl rfl rfl) ?_
   refine q1 _ ?_
   iterate 4 refine qX true (by decide) ?_
   refine step (v := vb true) (st_pickT (b := true) rfl rfl rfl) ?_
   have hh := Option.some.inj hv
   subst hh
   exact nR []
  ·
   replace hv := iteF hg1 hv
   refine qG (decide ((a0.Init.length : Int) < 1)) (Bool.eq_false_iff.2 hg1) ?_
   refine q1 _ ?_
   refine qG (decide ((a0.Init.length : Int) < 1)) (Bool.eq_false_iff.2 hg1) ?_
   refine q1 _ ?_
   refine qG (decide ((a0.Init.length : Int) < 1)) (Bool.eq_false_iff.2 hg1) ?_
   refine step (v := vi (a0.Init.length : Int)) (st_len (xs := a0.Init) (e := (D.int .u16)) rfl) ?_
   refine qG (decide ((a0.Init.length : Int) < 1)) (Bool.eq_false_iff.2 hg1) ?_
   refine q1 _ ?_
   refine step (v := vb (decide ((a0.Init.length : Int) > 4))) (st_pickF (b := decide ((a0.Init.length : Int) < 1)) rfl hg1 rfl) ?_
   refine q1 _ ?_
   by_cases hg2 : decide ((a0.Init.length : Int) > 4) = true
   ·
    replace hv := iteT hg2 hv
    iterate 4 refine qX (decide ((a0.Init.length : Int) > 4)) (by rw [hg2]; decide) ?_
    refine step (v := vb true) (st_pickT (b := decide ((a0.Init.length : Int) > 4)) rfl hg2 rfl) ?_
    refine q1 _ ?_
    iterate 4 refine qX true (by decide) ?_
    refine step (v := vb true) (st_pickT (b := true) rfl rfl rfl) ?_
    refine q1 _ ?_
    iterate 4 refine qX true (by decide) ?_
    refine step (v := vb true) (st_pickT (b := true) rfl rfl rfl) ?_
    have hh := Option.some.inj hv
    subst hh
    exact nR []
   ·
    replace hv := iteF hg2 hv
    obtain ⟨r3, hr3, hv⟩ := bindE hv
    refine qG (decide ((a0.Init.length : Int) > 4)) (Bool.eq_false_iff.2 hg2) ?_
    refine q1 _ ?_
    refine qG (decide ((a0.Init.length : Int) > 4)) (Bool.eq_false_iff.2 hg2) ?_
    refine q1 _ ?_
    refine qG (decide ((a0.Init.length : Int) > 4)) (Bool.eq_false_iff.2 hg2) ?_
    refine stepC (r := .int .i64 r3) (ArgsOk.dt ArgsOk.nil') (c_ref05_Size hr3) ?_
    refine qG (decide ((a0.Init.length : Int) > 4)) (Bool.eq_false_iff.2 hg2) ?_
    refine q1 _ ?_
    refine step (v := vb (decide (r3 > 300))) (st_pickF (b := decide ((a0.Init.length : Int) > 4)) rfl hg2 rfl) ?_
    refine q1 _ ?_
    by_cases hg4 : decide (r3 > 300) = true
    ·
     replace hv := iteT hg4 hv
     iterate 4 refine qX (decide (r3 > 300)) (by rw [hg4]; decide) ?_
     refine step (v := vb true) (st_pickT (b := decide (r3 > 300)) rfl hg4 rfl) ?_
     refine q1 _ ?_
     iterate 4 refine qX true (by decide) ?_
     refine step (v := vb true) (st_pickT (b := true) rfl rfl rfl) ?_
     have hh := Option.some.inj hv
     subst hh
     exact nR []
    ·
     replace hv := iteF hg4 hv
     obtain ⟨r5, hr5, hv⟩ := bindE hv
     refine qG (decide (r3 > 300)) (Bool.eq_false_iff.2 hg4) ?_
     refine q1 _ ?_
     refine qG (decide (r3 > 300)) (Bool.eq_false_iff.2 hg4) ?_
     refine q1 _ ?_
     refine qG (decide (r3 > 300)) (Bool.eq_false_iff.2 hg4) ?_
     refine stepC (r := .int .i64 r5) (ArgsOk.dt ArgsOk.nil') (c_ref05_Depth hr5) ?_
     refine qG (decide (r3 > 300)) (Bool.eq_false_iff.2 hg4) ?_
     refine q1 _ ?_
     refine step (v := vb (decide (r5 > 20))) (st_pickF (b := decide (r3 > 300)) rfl hg4 rfl) ?_
     refine q1 _ ?_
     by_cases hg6 : decide (r5 > 20) = true
     ·
      replace hv := iteT hg6 hv
      iterate 4 refine qX (decide (r5 > 20)) (by rw [hg6]; decide) ?_
      refine step (v := vb true) (st_pickT (b := decide (r5 > 20)) rfl hg6 rfl) ?_
      have hh := Option.some.inj hv
      subst hh
      exact nR []
     ·
      replace hv := iteF hg6 hv
      refine qG (decide (r5 > 20)) (Bool.eq_false_iff.2 hg6) ?_
      refine q1 _ ?_
      refine qG (decide (r5 > 20)) (Bool.eq_false_iff.2 hg6) ?_
      refine q1 _ ?_
      refine qG (decide (r5 > 20)) (Bool.eq_false_iff.2 hg6) ?_
      refine step (v := vi (a0.Rules.length : Int)) (st_len (xs := a0.Rules) (e := eapi_Rule) rfl) ?_
      refine qG (decide (r5 > 20)) (Bool.eq_false_iff.2 hg6) ?_
      refine q1 _ ?_
      refine step (v := vb (decide ((a0.Rules.length : Int) > 24))) (st_pickF (b := decide (r5 > 20)) rfl hg6 rfl) ?_
      have hh := Option.some.inj hv
      subst hh
      exact nR []
 by_cases hc9 : y7 = true
 ·
  replace h := iteT hc9 h
  refine NWp.condT (t := y7) rfl hc9 ?_
  refine NWp.opsJ ⟨tab [(2, vi 2)], stab [], 0⟩ ?_ ?_
  ·
   refine q1 _ ?_
   exact nR []
  have hh := Option.some.inj h
  subst hh
  refine NWp.ret ?_
  show FQ _ _ _ _
  exact FQ.mk1 (.inr rfl) (res_t (v := vi 2) rfl rfl) (RV.d trivial)
 ·
  replace h := iteF hc9 h
  refine NWp.condF (t := y7) rfl hc9 ?_
  refine NWp.skip ?_
  refine NWp.seq ?_
  obtain ⟨r10, hr10, h⟩ := bindE h
  refine NWp.opsJ ⟨tab [(1, vp2 a0), (39, vb (!r10))], stab [], 0⟩ ?_ ?_
  ·
   iterate 4 refine q1 _ ?_
   refine step (v := vi (a0.Init.length : Int)) (st_len (xs := a0.Init) (e := (D.int .u16)) rfl) ?_
   refine stepC (r := .bool r10) (ArgsOk.dt (ArgsOk.dt ArgsOk.nil')) (c_ref05_formed hr10) ?_
   refine q1 _ ?_
   exact nR []
  by_cases hc11 : (!r10) = true
  ·
   replace h := iteT hc11 h
   refine NWp.condT (t := (!r10)) rfl hc11 ?_
   refine NWp.opsJ ⟨tab [(2, vi 11)], stab [], 0⟩ ?_ ?_
   ·
    refine q1 _ ?_
    exact nR []
   have hh := Option.some.inj h
   subst hh
   refine NWp.ret ?_
   show FQ _ _ _ _
   exact FQ.mk1 (.inr rfl) (res_t (v := vi 11) rfl rfl) (RV.d trivial)
  ·
   replace h := iteF hc11 h
   refine NWp.condF (t := (!r10)) rfl hc11 ?_
   refine NWp.skip ?_
   refine NWp.seq ?_
   refine NWp.opsJ ⟨tab [(1, vp2 a0), (3, vi 0)], stab [], 0⟩ ?_ ?_
   ·
    refine q1 _ ?_
    exact nR []
   obtain ⟨q33, hl, h⟩ := bindE h
   refine NWp.block ?_
   refine loop_forR (cntU (a0.Rules.length : Int)) (fun (i12 : Int) (qq : Unit) => ⟨tab [(1, vp2 a0), (3, vi i12)], stab [], 0⟩) 0 (fun (qq : Unit) => ⟨tab [], stab [], 0⟩) Low low_step (r := r) hl (by unfold Low; omega) ?_ ?_ ?_ ?_
   ·
    rintro i12 ⟨⟩ xr17 hinv15 hgo14 h
    show NWp _ _ _ _ _ ⟨tab [(1, vp2 a0), (3, vi i12)], stab [], 0⟩
    have hc16 : decide (i12 < (a0.Rules.length : Int)) = true := decide_eq_true hgo14
    refine NWp.seq ?_
    refine NWp.opsJ ⟨tab [(1, vp2 a0), (3, vi i12), (43, vi (a0.Rules.length : Int)), (44, vb (decide (i12 < (a0.Rules.length : Int))))], stab [], 0⟩ ?_ ?_
    ·
     iterate 3 refine q1 _ ?_
     refine step (v := vi (a0.Rules.length : Int)) (st_len (xs := a0.Rules) (e := eapi_Rule) rfl) ?_
     refine q1 _ ?_
     exact nR []
    refine NWp.rng 43 rfl fun hB13 => ?_
    refine NWp.condT (t := decide (i12 < (a0.Rules.length : Int))) rfl hc16 ?_
    refine NWp.skip ?_
    refine NWp.seq ?_
    refine NWp.block ?_
    obtain ⟨x18, hx18, h⟩ := bindE h
    refine NWp.opsJ ⟨tab [(1, vp2 a0), (3, vi i12), (4, .ptr 0 0 0)], stab [(0, .var [vl6 x18.When, vl6 x18.Guard, vl6 x18.Then])], 1⟩ ?_ ?_
    ·
     iterate 3 refine q1 _ ?_
     refine step (v := vp4 x18) (st_iaddr (xs := a0.Rules) (e := eapi_Rule) hx18 rfl rfl) ?_
     refine q1 _ ?_
     refine step (v := .ptr 0 0 0) (σ' := (upd (stab []) 0 (some (.var [vl6 [], vl6 [], vl6 []])))) (n' := 1) rfl ?_
     refine step (v := V.undef) (σ' := (upd (upd (stab []) 0 (some (.var [vl6 [], vl6 [], vl6 []]))) 0 (some (.var [vl6 x18.When, vl6 x18.Guard, vl6 x18.Then])))) (n' := 1) rfl ?_
     exact nR [0]
    obtain ⟨y30, hv, h⟩ := bindE h
    refine NWp.opsJ ⟨tab [(1, vp2 a0), (3, vi i12), (101, vb y30)], stab [], 0⟩ ?_ ?_
    ·
     iterate 2 refine q1 _ ?_
     refine step (v := vi (x18.When.length : Int)) (st_len (xs := x18.When) (e := eapi_Pair) rfl) ?_
     iterate 2 refine q1 _ ?_
     by_cases hg19 : decide ((x18.When.length : Int) < 2) = true
     ·
      replace hv := iteT hg19 hv
      iterate 6 refine qX (decide ((x18.When.length : Int) < 2)) (by rw [hg19]; decide) ?_
      refine step (v := vb true) (st_pickT (b := decide ((x18.When.length : Int) < 2)) rfl hg19 rfl) ?_
      refine q1 _ ?_
      iterate 6 refine qX true (by decide) ?_
      refine step (v := vb true) (st_pickT (b := true) rfl rfl rfl) ?_
      refine q1 _ ?_
      iterate 4 refine qX true (by decide) ?_
      refine step (v := vb true) (st_pickT (b := true) rfl rfl rfl) ?_
      refine q1 _ ?_
      iterate 7 refine qX true (by decide) ?_
      refine step (v := vb true) (st_pickT (b := true) rfl rfl rfl) ?_
      refine q1 _ ?_
      iterate 7 refine qX true (by decide) ?_
      refine step (v := vb true) (st_pickT (b := true) rfl rfl rfl) ?_
      refine q1 _ ?_
      iterate 4 refine qX true (by decide) ?_
      refine step (v := vb true) (st_pickT (b := true) rfl rfl rfl) ?_
      have hh := Option.some.inj hv
      subst hh
      exact nR []
     ·
      replace hv := iteF hg19 hv
      obtain ⟨x20, hx20, hv⟩ := bindE hv
      refine qG (decide ((x18.When.length : Int) < 2)) (Bool.eq_false_iff.2 hg19) ?_
      refine q1 _ ?_
      refine qG (decide ((x18.When.length : Int) < 2)) (Bool.eq_false_iff.2 hg19) ?_
      refine q1 _ ?_
      refine qG (decide ((x18.When.length : Int) < 2)) (Bool.eq_false_iff.2 hg19) ?_
      refine step (v := vp7 x20) (st_iaddr (xs := x18.When) (e := eapi_Pair) hx20 rfl rfl) ?_
      refine qG (decide ((x18.When.length : Int) < 2)) (Bool.eq_false_iff.2 hg19) ?_
      refine q1 _ ?_
      refine qG (decide ((x18.When.length : Int) < 2)) (Bool.eq_false_iff.2 hg19) ?_
      refine q1 _ ?_
      refine qG (decide ((x18.When.length : Int) < 2)) (Bool.eq_false_iff.2 hg19) ?_
      refine q1 _ ?_
      refine step (v := vb (x20.F != 0)) (st_pickF (b := decide ((x18.When.length : Int) < 2)) rfl hg19 rfl) ?_
      refine q1 _ ?_
      by_cases hg21 : (x20.F != 0) = true
      ·
       replace hv := iteT hg21 hv
       iterate 6 refine qX (x20.F != 0) (by rw [hg21]; decide) ?_
       refine step (v := vb true) (st_pickT (b := (x20.F != 0)) rfl hg21 rfl) ?_
       refine q1 _ ?_
       iterate 4 refine qX true (by decide) ?_
       refine step (v := vb true) (st_pickT (b := true) rfl rfl rfl) ?_
       refine q1 _ ?_
       iterate 7 refine qX true (by decide) ?_
       refine step (v := vb true) (st_pickT (b := true) rfl rfl rfl) ?_
       refine q1 _ ?_
       iterate 7 refine qX true (by decide) ?_
       refine step (v := vb true) (st_pickT (b := true) rfl rfl rfl) ?_
       refine q1 _ ?_
       iterate 4 refine qX true (by decide) ?_
       refine step (v := vb true) (st_pickT (b := true) rfl rfl rfl) ?_
       have hh := Option.some.inj hv
       subst hh
       exact nR []
      ·
       replace hv := iteF hg21 hv
       obtain ⟨x22, hx22, hv⟩ := bindE hv
       refine qG (x20.F != 0) (Bool.eq_false_iff.2 hg21) ?_
       refine q1 _ ?_
       refine qG (x20.F != 0) (Bool.eq_false_iff.2 hg21) ?_
       refine q1 _ ?_
       refine qG (x20.F != 0) (Bool.eq_false_iff.2 hg21) ?_
       refine step (v := vp7 x22) (st_iaddr (xs := x18.When) (e := eapi_Pair) hx22 rfl rfl) ?_
       refine qG (x20.F != 0) (Bool.eq_false_iff.2 hg21) ?_
       refine q1 _ ?_
       refine qG (x20.F != 0) (Bool.eq_false_iff.2 hg21) ?_
       refine q1 _ ?_
       refine qG (x20.F != 0) (Bool.eq_false_iff.2 hg21) ?_
       refine q1 _ ?_
       refine step (v := vb (x22.F != 1)) (st_pickF (b := (x20.F != 0)) rfl hg21 rfl) ?_
       refine q1 _ ?_
       by_cases hg23 : (x22.F != 1) = true
       ·
        replace hv := iteT hg23 hv
        iterate 4 refine qX (x22.F != 1) (by rw [hg23]; decide) ?_
        refine step (v := vb true) (st_pickT (b := (x22.F != 1)) rfl hg23 rfl) ?_
        refine q1 _ ?_
        iterate 7 refine qX true (by decide) ?_
        refine step (v := vb true) (st_pickT (b := true) rfl rfl rfl) ?_
        refine q1 _ ?_
        iterate 7 refine qX true (by decide) ?_
        refine step (v := vb true) (st_pickT (b := true) rfl rfl rfl) ?_
        refine q1 _ ?_
        iterate 4 refine qX true (by decide) ?_
        refine step (v := vb true) (st_pickT (b := true) rfl rfl rfl) ?_
        have hh := Option.some.inj hv
        subst hh
        exact nR []
       ·
        replace hv := iteF hg23 hv
        obtain ⟨r24, hr24, hv⟩ := bindE hv
        refine qG (x22.F != 1) (Bool.eq_false_iff.2 hg23) ?_
        refine q1 _ ?_
        refine qG (x22.F != 1) (Bool.eq_false_iff.2 hg23) ?_
        refine q1 _ ?_
        refine qG (x22.F != 1) (Bool.eq_false_iff.2 hg23) ?_
        refine stepC (r := .bool r24) (ArgsOk.dt (ArgsOk.dt ArgsOk.nil')) (c_ref05_rising hr24) ?_
        refine qG (x22.F != 1) (Bool.eq_false_iff.2 hg23) ?_
        refine q1 _ ?_
        refine step (v := vb (!r24)) (st_pickF (b := (x22.F != 1)) rfl hg23 rfl) ?_
        refine q1 _ ?_
        by_cases hg25 : (!r24) = true
        ·
         replace hv := iteT hg25 hv
         iterate 7 refine qX (!r24) (by rw [hg25]; decide) ?_
         refine step (v := vb true) (st_pickT (b := (!r24)) rfl hg25 rfl) ?_
         refine q1 _ ?_
         iterate 7 refine qX true (by decide) ?_
         refine step (v := vb true) (st_pickT (b := true) rfl rfl rfl) ?_
         refine q1 _ ?_
         iterate 4 refine qX true (by decide) ?_
         refine step (v := vb true) (st_pickT (b := true) rfl rfl rfl) ?_
         have hh := Option.some.inj hv
         subst hh
         exact nR []
        ·
         replace hv := iteF hg25 hv
         obtain ⟨r26, hr26, hv⟩ := bindE hv
         refine qG (!r24) (Bool.eq_false_iff.2 hg25) ?_
         refine q1 _ ?_
         refine qG (!r24) (Bool.eq_false_iff.2 hg25) ?_
         refine q1 _ ?_
         refine qG (!r24) (Bool.eq_false_iff.2 hg25) ?_
         refine q1 _ ?_
         refine qG (!r24) (Bool.eq_false_iff.2 hg25) ?_
         refine q1 _ ?_
         refine qG (!r24) (Bool.eq_false_iff.2 hg25) ?_
         refine step (v := vi (a0.Init.length : Int)) (st_len (xs := a0.Init) (e := (D.int .u16)) rfl) ?_
         refine qG (!r24) (Bool.eq_false_iff.2 hg25) ?_
         refine stepC (r := .bool r26) (ArgsOk.dt (ArgsOk.dt ArgsOk.nil')) (c_ref05_rising hr26) ?_
         refine qG (!r24) (Bool.eq_false_iff.2 hg25) ?_
         refine q1 _ ?_
         refine step (v := vb (!r26)) (st_pickF (b := (!r24)) rfl hg25 rfl) ?_
         refine q1 _ ?_
         by_cases hg27 : (!r26) = true
         ·
          replace hv := iteT hg27 hv
          iterate 7 refine qX (!r26) (by rw [hg27]; decide) ?_
          refine step (v := vb true) (st_pickT (b := (!r26)) rfl hg27 rfl) ?_
          refine q1 _ ?_
          iterate 4 refine qX true (by decide) ?_
          refine step (v := vb true) (st_pickT (b := true) rfl rfl rfl) ?_
          have hh := Option.some.inj hv
          subst hh
          exact nR []
         ·
          replace hv := iteF hg27 hv
          obtain ⟨r28, hr28, hv⟩ := bindE hv
          refine qG (!r26) (Bool.eq_false_iff.2 hg27) ?_
          refine q1 _ ?_
          refine qG (!r26) (Bool.eq_false_iff.2 hg27) ?_
          refine q1 _ ?_
          refine qG (!r26) (Bool.eq_false_iff.2 hg27) ?_
          refine q1 _ ?_
          refine qG (!r26) (Bool.eq_false_iff.2 hg27) ?_
          refine q1 _ ?_
          refine qG (!r26) (Bool.eq_false_iff.2 hg27) ?_
          refine step (v := vi (a0.Init.length : Int)) (st_len (xs := a0.Init) (e := (D.int .u16)) rfl) ?_
          refine qG (!r26) (Bool.eq_false_iff.2 hg27) ?_
          refine stepC (r := .bool r28) (ArgsOk.dt (ArgsOk.dt ArgsOk.nil')) (c_ref05_rising hr28) ?_
          refine qG (!r26) (Bool.eq_false_iff.2 hg27) ?_
          refine q1 _ ?_
          refine step (v := vb (!r28)) (st_pickF (b := (!r26)) rfl hg27 rfl) ?_
          refine q1 _ ?_
          by_cases hg29 : (!r28) = true
          ·
           replace hv := iteT hg29 hv
           iterate 4 refine qX (!r28) (by rw [hg29]; decide) ?_
           refine step (v := vb true) (st_pickT (b := (!r28)) rfl hg29 rfl) ?_
           have hh := Option.some.inj hv
           subst hh
           exact nR []
          ·
           replace hv := iteF hg29 hv
           refine qG (!r28) (Bool.eq_false_iff.2 hg29) ?_
           refine q1 _ ?_
           refine qG (!r28) (Bool.eq_false_iff.2 hg29) ?_
           refine q1 _ ?_
           refine qG (!r28) (Bool.eq_false_iff.2 hg29) ?_
           refine step (v := vi (x18.Then.length : Int)) (st_len (xs := x18.Then) (e := eapi_Pair) rfl) ?_
           refine qG (!r28) (Bool.eq_false_iff.2 hg29) ?_
           refine q1 _ ?_
           refine step (v := vb ((x18.Then.length : Int) == 0)) (st_pickF (b := (!r28)) rfl hg29 rfl) ?_
           have hh := Option.some.inj hv
           subst hh
           exact nR []
    by_cases hc32 : y30 = true
    ·
     replace h := iteT hc32 h
     refine NWp.condT (t := y30) rfl hc32 ?_
     refine NWp.opsJ ⟨tab [(2, vi 11)], stab [], 0⟩ ?_ ?_
     ·
      refine q1 _ ?_
      exact nR []
     obtain ⟨r33, kr33, hr⟩ := mapE (o := some 11) (g := Br.ret) h
     subst hr
     have h := kr33
     have hh := Option.some.inj h
     subst hh
     refine NWp.ret ?_
     refine And.intro (fun hn => nomatch hn) ?_
     intro hq
     have hq := hq.symm
     subst hq
     show FQ _ _ _ _
     exact FQ.mk1 (.inr rfl) (res_t (v := vi 11) rfl rfl) (RV.d trivial)
    ·
     replace h := iteF hc32 h
     refine NWp.condF (t := y30) rfl hc32 ?_
     refine NWp.skip ?_
     have hh := Option.some.inj h
     subst hh
     refine NWp.opsE ⟨tab [(1, vp2 a0), (3, vi (i12 + 1))], stab [], 0⟩ ?_ ?_
     ·
      refine q1 _ ?_
      refine step (v := vi (i12 + 1)) (st_inc (inc_ok hinv15 hgo14 hB13) rfl rfl) ?_
      refine q1 _ ?_
      exact nR []
     exact And.intro rfl rfl
   ·
    rintro i12 ⟨⟩ hinv15 hgo14
    show NWp _ _ _ _ _ ⟨tab [(1, vp2 a0), (3, vi i12)], stab [], 0⟩
    have hc16 : ¬ (decide (i12 < (a0.Rules.length : Int)) = true) := fun hq => hgo14 (of_decide_eq_true hq)
    refine NWp.seq ?_
    refine NWp.opsJ ⟨tab [(1, vp2 a0), (3, vi i12), (44, vb (decide (i12 < (a0.Rules.length : Int))))], stab [], 0⟩ ?_ ?_
    ·
     iterate 3 refine q1 _ ?_
     refine step (v := vi (a0.Rules.length : Int)) (st_len (xs := a0.Rules) (e := eapi_Rule) rfl) ?_
     refine q1 _ ?_
     exact nR []
    refine NWp.condF (t := decide (i12 < (a0.Rules.length : Int))) rfl hc16 ?_
    refine NWp.norm (s0 := ⟨tab [], stab [], 0⟩) (nr []) ?_
    refine NWp.exit ?_
    exact And.intro rfl rfl
   ·
    intro r' hq
    subst hq
    exact Option.some.inj h
   rintro ⟨⟩ rfl
   refine NWp.opsJ ⟨tab [(2, vi 0)], stab [], 0⟩ ?_ ?_
   ·
    refine q1 _ ?_
    exact nR []
   have hh := Option.some.inj h
   subst hh
   refine NWp.ret ?_
   show FQ _ _ _ _
   exact FQ.mk1 (.inr rfl) (res_t (v := vi 0) rfl rfl) (RV.d trivial)

theorem c_ref11_Goes {a0 : api_Rule} {a1 : (List Int)} {r : Bool} (h : ref11_Goes a0 a1 = some r) : PCall Tryd.prog 34 [eapi_Rule a0, eL none (D.int .u16) a1] (.bool r) := by
 refine PCall.introN ok34 (show 2 ≤ 39 by decide) ?_
 refine NWp.norm (s0 := ⟨tab [(0, .d (eapi_Rule a0)), (1, vl4 a1)], stab [], 0⟩) (nr []) ?_
 refine NWp.opsJ ⟨tab [(1, vl4 a1), (2, vp4 a0)], stab [], 0⟩ ?_ ?_
 ·
  iterate 2 refine q1 _ ?_
  exact nR []
 refine NWp.seq ?_
 refine NWp.opsJ ⟨tab [(1, vl4 a1), (2, vp4 a0), (5, vi 0)], stab [], 0⟩ ?_ ?_
 ·
  refine q1 _ ?_
  exact nR []
 obtain ⟨q14, hl, h⟩ := bindE h
 refine NWp.block ?_
 refine loop_forR (cntU (a0.Guard.length : Int)) (fun (i1 : Int) (qq : Unit) => ⟨tab [(1, vl4 a1), (2, vp4 a0), (5, vi i1)], stab [], 0⟩) 0 (fun (qq : Unit) => ⟨tab [], stab [], 0⟩) Low low_step (r := r) hl (by unfold Low; omega) ?_ ?_ ?_ ?_
 ·
  rintro i1 ⟨⟩ xr6 hinv4 hgo3 h
  show NWp _ _ _ _ _ ⟨tab [(1, vl4 a1), (2, vp4 a0), (5, vi i1)], stab [], 0⟩
  have hc5 : decide (i1 < (a0.Guard.length : Int)) = true := decide_eq_true hgo3
  refine NWp.seq ?_
  refine NWp.opsJ ⟨tab [(1, vl4 a1), (2, vp4 a0), (5, vi i1), (10, vi (a0.Guard.length : Int)), (11, vb (decide (i1 < (a0.Guard.length : Int))))], stab [], 0⟩ ?_ ?_
  ·
   iterate 3 refine q1 _ ?_
   refine step (v := vi (a0.Guard.length : Int)) (st_len (xs := a0.Guard) (e := eapi_Pair) rfl) ?_
   refine q1 _ ?_
   exact nR []
  refine NWp.rng 10 rfl fun hB2 => ?_
  refine NWp.condT (t := decide (i1 < (a0.Guard.length : Int))) rfl hc5 ?_
  refine NWp.skip ?_
  refine NWp.seq ?_
  refine NWp.block ?_
  obtain ⟨x7, hx7, h⟩ := bindE h
  refine NWp.opsJ ⟨tab [(1, vl4 a1), (2, vp4 a0), (5, vi i1), (6, .ptr 0 0 0)], stab [(0, .var [vi x7.F, vh x7.N])], 1⟩ ?_ ?_
  ·
   iterate 3 refine q1 _ ?_
   refine step (v := vp7 x7) (st_iaddr (xs := a0.Guard) (e := eapi_Pair) hx7 rfl rfl) ?_
   refine q1 _ ?_
   refine step (v := .ptr 0 0 0) (σ' := (upd (stab []) 0 (some (.var [vi 0, vh 0])))) (n' := 1) rfl ?_
   refine step (v := V.undef) (σ' := (upd (upd (stab []) 0 (some (.var [vi 0, vh 0]))) 0 (some (.var [vi x7.F, vh x7.N])))) (n' := 1) rfl ?_
   exact nR [0]
  obtain ⟨y11, hv, h⟩ := bindE h
  refine NWp.opsJ ⟨tab [(1, vl4 a1), (2, vp4 a0), (5, vi i1), (38, vb y11)], stab [], 0⟩ ?_ ?_
  ·
   iterate 4 refine q1 _ ?_
   by_cases hg8 : decide (x7.F < 0) = true
   ·
    replace hv := iteT hg8 hv
    iterate 5 refine qX (decide (x7.F < 0)) (by rw [hg8]; decide) ?_
    refine step (v := vb true) (st_pickT (b := decide (x7.F < 0)) rfl hg8 rfl) ?_
    refine q1 _ ?_
    iterate 8 refine qX true (by decide) ?_
    refine step (v := vb true) (st_pickT (b := true) rfl rfl rfl) ?_
    have hh := Option.some.inj hv
    subst hh
    exact nR []
   ·
    replace hv := iteF hg8 hv
    refine qG (decide (x7.F < 0)) (Bool.eq_false_iff.2 hg8) ?_
    refine q1 _ ?_
    refine qG (decide (x7.F < 0)) (Bool.eq_false_iff.2 hg8) ?_
    refine q1 _ ?_
    refine qG (decide (x7.F < 0)) (Bool.eq_false_iff.2 hg8) ?_
    refine q1 _ ?_
    refine qG (decide (x7.F < 0)) (Bool.eq_false_iff.2 hg8) ?_
    refine step (v := vi (a1.length : Int)) (st_len (xs := a1) (e := (D.int .u16)) rfl) ?_
    refine qG (decide (x7.F < 0)) (Bool.eq_false_iff.2 hg8) ?_
    refine q1 _ ?_
    refine step (v := vb (decide (x7.F ≥ (a1.length : Int)))) (st_pickF (b := decide (x7.F < 0)) rfl hg8 rfl) ?_
    refine q1 _ ?_
    by_cases hg9 : decide (x7.F ≥ (a1.length : Int)) = true
    ·
     replace hv := iteT hg9 hv
     iterate 8 refine qX (decide (x7.F ≥ (a1.length : Int))) (by rw [hg9]; decide) ?_
     refine step (v := vb true) (st_pickT (b := decide (x7.F ≥ (a1.length : Int))) rfl hg9 rfl) ?_
     have hh := Option.some.inj hv
     subst hh
     exact nR []
    ·
     replace hv := iteF hg9 hv
     obtain ⟨x10, hx10, hv⟩ := bindE hv
     refine qG (decide (x7.F ≥ (a1.length : Int))) (Bool.eq_false_iff.2 hg9) ?_
     refine q1 _ ?_
     refine qG (decide (x7.F ≥ (a1.length : Int))) (Bool.eq_false_iff.2 hg9) ?_
     refine q1 _ ?_
     refine qG (decide (x7.F ≥ (a1.length : Int))) (Bool.eq_false_iff.2 hg9) ?_
     refine q1 _ ?_
     refine qG (decide (x7.F ≥ (a1.length : Int))) (Bool.eq_false_iff.2 hg9) ?_
     refine step (v := .d (.cptr none (.int .u16 x10) 0)) (st_iaddr (xs := a1) (e := (D.int .u16)) hx10 rfl rfl) ?_
     refine qG (decide (x7.F ≥ (a1.length : Int))) (Bool.eq_false_iff.2 hg9) ?_
     refine q1 _ ?_
     refine qG (decide (x7.F ≥ (a1.length : Int))) (Bool.eq_false_iff.2 hg9) ?_
     refine q1 _ ?_
     refine qG (decide (x7.F ≥ (a1.length : Int))) (Bool.eq_false_iff.2 hg9) ?_
     refine q1 _ ?_
     refine qG (decide (x7.F ≥ (a1.length : Int))) (Bool.eq_false_iff.2 hg9) ?_
     refine q1 _ ?_
     refine step (v := vb (x10 != x7.N)) (st_pickF (b := decide (x7.F ≥ (a1.length : Int))) rfl hg9 rfl) ?_
     have hh := Option.some.inj hv
     subst hh
     exact nR []
  by_cases hc13 : y11 = true
  ·
   replace h := iteT hc13 h
   refine NWp.condT (t := y11) rfl hc13 ?_
   refine NWp.opsJ ⟨tab [(4, vb false)], stab [], 0⟩ ?_ ?_
   ·
    refine q1 _ ?_
    exact nR []
   obtain ⟨r14, kr14, hr⟩ := mapE (o := some false) (g := Br.ret) h
   subst hr
   have h := kr14
   have hh := Option.some.inj h
   subst hh
   refine NWp.ret ?_
   refine And.intro (fun hn => nomatch hn) ?_
   intro hq
   have hq := hq.symm
   subst hq
   show FQ _ _ _ _
   exact FQ.mk1 (.inr rfl) (res_t (v := vb false) rfl rfl) (RV.d trivial)
  ·
   replace h := iteF hc13 h
   refine NWp.condF (t := y11) rfl hc13 ?_
   refine NWp.skip ?_
   have hh := Option.some.inj h
   subst hh
   refine NWp.opsE ⟨tab [(1, vl4 a1), (2, vp4 a0), (5, vi (i1 + 1))], stab [], 0⟩ ?_ ?_
   ·
    refine q1 _ ?_
    refine step (v := vi (i1 + 1)) (st_inc (inc_ok hinv4 hgo3 hB2) rfl rfl) ?_
    refine q1 _ ?_
    exact nR []
   exact And.intro rfl rfl
 ·
  rintro i1 ⟨⟩ hinv4 hgo3
  show NWp _ _ _ _ _ ⟨tab [(1, vl4 a1), (2, vp4 a0), (5, vi i1)], stab [], 0⟩
  have hc5 : ¬ (decide (i1 < (a0.Guard.length : Int)) = true) := fun hq => hgo3 (of_decide_eq_true hq)
  refine NWp.seq ?_
  refine NWp.opsJ ⟨tab [(1, vl4 a1), (2, vp4 a0), (5, vi i1), (11, vb (decide (i1 < (a0.Guard.length : Int))))], stab [], 0⟩ ?_ ?_
  ·
   iterate 3 refine q1 _ ?_
   refine step (v := vi (a0.Guard.length : Int)) (st_len (xs := a0.Guard) (e := eapi_Pair) rfl) ?_
   refine q1 _ ?_
   exact nR []
  refine NWp.condF (t := decide (i1 < (a0.Guard.length : Int))) rfl hc5 ?_
  refine NWp.norm (s0 := ⟨tab [], stab [], 0⟩) (nr []) ?_
  refine NWp.exit ?_
  exact And.intro rfl rfl
 ·
  intro r' hq
  subst hq
  exact Option.some.inj h
 rintro ⟨⟩ rfl
 refine NWp.opsJ ⟨tab [(4, vb true)], stab [], 0⟩ ?_ ?_
 ·
  refine q1 _ ?_
  exact nR []
 have hh := Option.some.inj h
 subst hh
 refine NWp.ret ?_
 show FQ _ _ _ _
 exact FQ.mk1 (.inr rfl) (res_t (v := vb true) rfl rfl) (RV.d trivial)

theorem c_ref11_After {a0 : api_Rule} {a1 : (List Int)} {r : (List Int)} (h : ref11_After a0 a1 = some r) : PCall Tryd.prog 35 [eapi_Rule a0, eL none (D.int .u16) a1] (eL none (D.int .u16) r) := by
 refine PCall.introN ok35 (show 2 ≤ 40 by decide) ?_
 refine NWp.norm (s0 := ⟨tab [(0, .d (eapi_Rule a0)), (1, vl4 a1)], stab [], 0⟩) (nr []) ?_
 refine NWp.opsJ ⟨tab [(1, vl4 a1), (2, vp4 a0)], stab [], 0⟩ ?_ ?_
 ·
  iterate 2 refine q1 _ ?_
  exact nR []
 obtain ⟨l1, hl1, h⟩ := bindE h
 refine NWp.opsJ ⟨tab [(2, vp4 a0), (5, .loc 0 0 l1.length)], stab [(0, .lst true none (List.map (D.int .u16) l1))], 1⟩ ?_ ?_
 ·
  refine step (v := .loc 0 0 (([] : List Int).length)) (σ' := (upd (stab []) 0 (some (.lst true none (List.map (D.int .u16) ([] : List Int)))))) (n' := 1) rfl ?_
  refine q1 _ ?_
  refine step (v := .loc 1 0 l1.length) (σ' := (upd (upd (upd (stab []) 0 (some (.lst true none (List.map (D.int .u16) ([] : List Int))))) 0 none) 1 (some (.lst true none (List.map (D.int .u16) l1))))) (n' := 2) (st_app (xs := ([] : List Int)) (ys := a1) (e := (D.int .u16)) hl1 rfl rfl rfl (src_v (xs := a1) (e := (D.int .u16)) rfl)) ?_
  refine q1 _ ?_
  exact nR [1]
 refine NWp.seq ?_
 refine NWp.opsJ ⟨tab [(2, vp4 a0), (5, .loc 0 0 l1.length), (6, vi 0)], stab [(0, .lst true none (List.map (D.int .u16) l1))], 1⟩ ?_ ?_
 ·
  refine q1 _ ?_
  exact nR [0]
 obtain ⟨z16, hl, h⟩ := bindE h
 refine NWp.block ?_
 refine loop_forO (cntU (a0.Then.length : Int)) (fun (i3 : Int) (qq : (List Int)) => ⟨tab [(2, vp4 a0), (5, .loc 0 0 qq.length), (6, vi i3)], stab [(0, .lst true none (List.map (D.int .u16) qq))], 1⟩) 0 (fun (qq : (List Int)) => ⟨tab [(5, .loc 0 0 qq.length)], stab [(0, .lst true none (List.map (D.int .u16) qq))], 1⟩) Low low_step hl (by unfold Low; omega) ?_ ?_ ?_
 ·
  rintro i3 l2 xr8 hinv6 hgo5 h
  show NWp _ _ _ _ _ ⟨tab [(2, vp4 a0), (5, .loc 0 0 l2.length), (6, vi i3)], stab [(0, .lst true none (List.map (D.int .u16) l2))], 1⟩
  have hc7 : decide (i3 < (a0.Then.length : Int)) = true := decide_eq_true hgo5
  refine NWp.seq ?_
  refine NWp.opsJ ⟨tab [(2, vp4 a0), (5, .loc 0 0 l2.length), (6, vi i3), (14, vi (a0.Then.length : Int)), (15, vb (decide (i3 < (a0.Then.length : Int))))], stab [(0, .lst true none (List.map (D.int .u16) l2))], 1⟩ ?_ ?_
  ·
   iterate 3 refine q1 _ ?_
   refine step (v := vi (a0.Then.length : Int)) (st_len (xs := a0.Then) (e := eapi_Pair) rfl) ?_
   refine q1 _ ?_
   exact nR [0]
  refine NWp.rng 14 rfl fun hB4 => ?_
  refine NWp.condT (t := decide (i3 < (a0.Then.length : Int))) rfl hc7 ?_
  refine NWp.skip ?_
  obtain ⟨l14, hv, h⟩ := bindE h
  refine NWp.seqN ⟨tab [(2, vp4 a0), (5, .loc 0 0 l14.length), (6, vi i3)], stab [(0, .lst true none (List.map (D.int .u16) l14))], 1⟩ ?_ ?_
  ·
   replace h := hv
   refine NWp.block ?_
   obtain ⟨x9, hx9, h⟩ := bindE h
   refine NWp.opsJ ⟨tab [(2, vp4 a0), (5, .loc 0 0 l2.length), (6, vi i3), (7, .ptr 1 0 0)], stab [(0, .lst true none (List.map (D.int .u16) l2)), (1, .var [vi x9.F, vh x9.N])], 2⟩ ?_ ?_
   ·
    iterate 3 refine q1 _ ?_
    refine step (v := vp7 x9) (st_iaddr (xs := a0.Then) (e := eapi_Pair) hx9 rfl rfl) ?_
    refine q1 _ ?_
    refine step (v := .ptr 1 0 0) (σ' := (upd (stab [(0, .lst true none (List.map (D.int .u16) l2))]) 1 (some (.var [vi 0, vh 0])))) (n' := 2) rfl ?_
    refine step (v := V.undef) (σ' := (upd (upd (stab [(0, .lst true none (List.map (D.int .u16) l2))]) 1 (some (.var [vi 0, vh 0]))) 1 (some (.var [vi x9.F, vh x9.N])))) (n' := 2) rfl ?_
    exact nR [0, 1]
   refine NWp.opsJ ⟨tab [(2, vp4 a0), (5, .loc 0 0 l2.length), (6, vi i3), (7, .ptr 1 0 0), (32, vb ((decide (x9.F ≥ 0)) && (decide (x9.F < (l2.length : Int)))))], stab [(0, .lst true none (List.map (D.int .u16) l2)), (1, .var [vi x9.F, vh x9.N])], 2⟩ ?_ ?_
   ·
    iterate 4 refine q1 _ ?_
    by_cases hg10 : decide (x9.F ≥ 0) = true
    ·
     refine qG _ hg10 ?_
     refine q1 _ ?_
     refine qG _ hg10 ?_
     refine q1 _ ?_
     refine qG _ hg10 ?_
     refine q1 _ ?_
     refine qG _ hg10 ?_
     refine q1 _ ?_
     refine qG _ hg10 ?_
     refine q1 _ ?_
     refine step (v := vb (decide (x9.F < (l2.length : Int)))) (st_pickT (b := decide (x9.F ≥ 0)) rfl hg10 rfl) ?_
     exact RunOps.nil' (nm [0, 1] ⟨.d _, .lc 0, .d _, .pt 1, .eq (by first | (simp [hg10]; done) | (simp_all; done) | grind), trivial⟩ ⟨⟨show 0 < 2 by decide, _, rfl, .lst _ _ _⟩, ⟨show 1 < 2 by decide, _, rfl, .vars ⟨.d _, .d _, trivial⟩⟩, trivial⟩)
    ·
     iterate 5 refine qX _ hg10 ?_
     refine step (v := vb false) (st_pickF (b := decide (x9.F ≥ 0)) rfl hg10 rfl) ?_
     exact RunOps.nil' (nm [0, 1] ⟨.d _, .lc 0, .d _, .pt 1, .eq (by first | (simp [hg10]; done) | (simp_all; done) | grind), trivial⟩ ⟨⟨show 0 < 2 by decide, _, rfl, .lst _ _ _⟩, ⟨show 1 < 2 by decide, _, rfl, .vars ⟨.d _, .d _, trivial⟩⟩, trivial⟩)
   by_cases hc11 : ((decide (x9.F ≥ 0)) && (decide (x9.F < (l2.length : Int)))) = true
   ·
    replace h := iteT hc11 h
    refine NWp.condT (t := ((decide (x9.F ≥ 0)) && (decide (x9.F < (l2.length : Int))))) rfl hc11 ?_
    obtain ⟨x12, hx12, h⟩ := bindE h
    obtain ⟨l13, hl13, h⟩ := bindE h
    have hh := Option.some.inj h
    subst hh
    refine NWp.opsE ⟨tab [(2, vp4 a0), (5, .loc 0 0 l13.length), (6, vi i3)], stab [(0, .lst true none (List.map (D.int .u16) l13))], 1⟩ ?_ ?_
    ·
     iterate 5 refine q1 _ ?_
     refine step (v := .ptr 0 x9.F.toNat 0) (st_iaddrL (xs := l2) (e := (D.int .u16)) hx12 rfl rfl rfl rfl) ?_
     refine step (v := V.undef) (σ' := (upd (stab [(0, .lst true none (List.map (D.int .u16) l2)), (1, .var [vi x9.F, vh x9.N])]) 0 (some (.lst true none (List.map (D.int .u16) l13))))) (n' := 2) (st_storeL' (e := (D.int .u16)) (v' := x9.N) hl13 rfl rfl rfl rfl rfl) ?_
     exact RunOps.nil' (nm [0] ⟨.d _, .le (id := 0) (gput_len hl13).symm (show 0 < 1 by decide), .d _, trivial⟩ ⟨⟨show 0 < 1 by decide, _, rfl, .lst _ _ _⟩, trivial⟩)
    exact And.intro rfl rfl
   ·
    replace h := iteF hc11 h
    refine NWp.condF (t := ((decide (x9.F ≥ 0)) && (decide (x9.F < (l2.length : Int))))) rfl hc11 ?_
    have hh := Option.some.inj h
    subst hh
    refine NWp.norm (s0 := ⟨tab [(2, vp4 a0), (5, .loc 0 0 l2.length), (6, vi i3)], stab [(0, .lst true none (List.map (D.int .u16) l2))], 1⟩) (nr [0]) ?_
    refine NWp.skip ?_
    exact And.intro rfl rfl
  have hh := Option.some.inj h
  subst hh
  refine NWp.opsE ⟨tab [(2, vp4 a0), (5, .loc 0 0 l14.length), (6, vi (i3 + 1))], stab [(0, .lst true none (List.map (D.int .u16) l14))], 1⟩ ?_ ?_
  ·
   refine q1 _ ?_
   refine step (v := vi (i3 + 1)) (st_inc (inc_ok hinv6 hgo5 hB4) rfl rfl) ?_
   refine q1 _ ?_
   exact nR [0]
  exact And.intro rfl rfl
 ·
  rintro i3 l2 hinv6 hgo5
  show NWp _ _ _ _ _ ⟨tab [(2, vp4 a0), (5, .loc 0 0 l2.length), (6, vi i3)], stab [(0, .lst true none (List.map (D.int .u16) l2))], 1⟩
  have hc7 : ¬ (decide (i3 < (a0.Then.length : Int)) = true) := fun hq => hgo5 (of_decide_eq_true hq)
  refine NWp.seq ?_
  refine NWp.opsJ ⟨tab [(2, vp4 a0), (5, .loc 0 0 l2.length), (6, vi i3), (15, vb (decide (i3 < (a0.Then.length : Int))))], stab [(0, .lst true none (List.map (D.int .u16) l2))], 1⟩ ?_ ?_
  ·
   iterate 3 refine q1 _ ?_
   refine step (v := vi (a0.Then.length : Int)) (st_len (xs := a0.Then) (e := eapi_Pair) rfl) ?_
   refine q1 _ ?_
   exact nR [0]
  refine NWp.condF (t := decide (i3 < (a0.Then.length : Int))) rfl hc7 ?_
  refine NWp.norm (s0 := ⟨tab [(5, .loc 0 0 l2.length)], stab [(0, .lst true none (List.map (D.int .u16) l2))], 1⟩) (nr [0]) ?_
  refine NWp.exit ?_
  exact And.intro rfl rfl
 refine NWp.opsJ ⟨tab [(4, .loc 0 0 z16.length)], stab [(0, .lst true none (List.map (D.int .u16) z16))], 1⟩ ?_ ?_
 ·
  iterate 2 refine q1 _ ?_
  exact nR [0]
 have hh := Option.some.inj h
 subst hh
 refine NWp.ret ?_
 show FQ _ _ _ _
 exact FQ.mk1 (.inr rfl) (res_t (v := .loc 0 0 z16.length) rfl rfl) (RV.loc (xs := z16) (e := (D.int .u16)) rfl rfl trivial)

theorem c_ref11_Same {a0 : (List Int)} {a1 : (List Int)} {r : Bool} (h : ref11_Same a0 a1 = some r) : PCall Tryd.prog 36 [eL none (D.int .u16) a0, eL none (D.int .u16) a1] (.bool r) := by
 refine PCall.introN ok36 (show 2 ≤ 26 by decide) ?_
 refine NWp.norm (s0 := ⟨tab [(0, vl4 a0), (1, vl4 a1)], stab [], 0⟩) (nr []) ?_
 refine NWp.opsJ ⟨tab [(0, vl4 a0), (1, vl4 a1)], stab [], 0⟩ ?_ ?_
 ·
  refine q1 _ ?_
  exact nR []
 refine NWp.seq ?_
 refine NWp.opsJ ⟨tab [(0, vl4 a0), (1, vl4 a1), (10, vb ((a0.length : Int) != (a1.length : Int)))], stab [], 0⟩ ?_ ?_
 ·
  refine q1 _ ?_
  refine step (v := vi (a0.length : Int)) (st_len (xs := a0) (e := (D.int .u16)) rfl) ?_
  refine q1 _ ?_
  refine step (v := vi (a1.length : Int)) (st_len (xs := a1) (e := (D.int .u16)) rfl) ?_
  refine q1 _ ?_
  exact nR []
 by_cases hc1 : ((a0.length : Int) != (a1.length : Int)) = true
 ·
  replace h := iteT hc1 h
  refine NWp.condT (t := ((a0.length : Int) != (a1.length : Int))) rfl hc1 ?_
  refine NWp.opsJ ⟨tab [(4, vb false)], stab [], 0⟩ ?_ ?_
  ·
   refine q1 _ ?_
   exact nR []
  have hh := Option.some.inj h
  subst hh
  refine NWp.ret ?_
  show FQ _ _ _ _
  exact FQ.mk1 (.inr rfl) (res_t (v := vb false) rfl rfl) (RV.d trivial)
 ·
  replace h := iteF hc1 h
  refine NWp.condF (t := ((a0.length : Int) != (a1.length : Int))) rfl hc1 ?_
  refine NWp.skip ?_
  refine NWp.seq ?_
  refine NWp.opsJ ⟨tab [(0, vl4 a0), (1, vl4 a1), (5, vi 0)], stab [], 0⟩ ?_ ?_
  ·
   refine q1 _ ?_
   exact nR []
  obtain ⟨q11, hl, h⟩ := bindE h
  refine NWp.block ?_
  refine loop_forR (cntU (a0.length : Int)) (fun (i2 : Int) (qq : Unit) => ⟨tab [(0, vl4 a0), (1, vl4 a1), (5, vi i2)], stab [], 0⟩) 0 (fun (qq : Unit) => ⟨tab [], stab [], 0⟩) Low low_step (r := r) hl (by unfold Low; omega) ?_ ?_ ?_ ?_
  ·
   rintro i2 ⟨⟩ xr7 hinv5 hgo4 h
   show NWp _ _ _ _ _ ⟨tab [(0, vl4 a0), (1, vl4 a1), (5, vi i2)], stab [], 0⟩
   have hc6 : decide (i2 < (a0.length : Int)) = true := decide_eq_true hgo4
   refine NWp.seq ?_
   refine NWp.opsJ ⟨tab [(0, vl4 a0), (1, vl4 a1), (5, vi i2), (13, vi (a0.length : Int)), (14, vb (decide (i2 < (a0.length : Int))))], stab [], 0⟩ ?_ ?_
   ·
    iterate 2 refine q1 _ ?_
    refine step (v := vi (a0.length : Int)) (st_len (xs := a0) (e := (D.int .u16)) rfl) ?_
    refine q1 _ ?_
    exact nR []
   refine NWp.rng 13 rfl fun hB3 => ?_
   refine NWp.condT (t := decide (i2 < (a0.length : Int))) rfl hc6 ?_
   refine NWp.skip ?_
   refine NWp.seq ?_
   refine NWp.block ?_
   obtain ⟨x8, hx8, h⟩ := bindE h
   obtain ⟨x9, hx9, h⟩ := bindE h
   refine NWp.opsJ ⟨tab [(0, vl4 a0), (1, vl4 a1), (5, vi i2), (25, vb (x8 != x9))], stab [], 0⟩ ?_ ?_
   ·
    iterate 2 refine q1 _ ?_
    refine step (v := .d (.cptr none (.int .u16 x8) 0)) (st_iaddr (xs := a0) (e := (D.int .u16)) hx8 rfl rfl) ?_
    iterate 3 refine q1 _ ?_
    refine step (v := .d (.cptr none (.int .u16 x9) 0)) (st_iaddr (xs := a1) (e := (D.int .u16)) hx9 rfl rfl) ?_
    iterate 2 refine q1 _ ?_
    exact nR []
   by_cases hc10 : (x8 != x9) = true
   ·
    replace h := iteT hc10 h
    refine NWp.condT (t := (x8 != x9)) rfl hc10 ?_
    refine NWp.opsJ ⟨tab [(4, vb false)], stab [], 0⟩ ?_ ?_
    ·
     refine q1 _ ?_
     exact nR []
    obtain ⟨r11, kr11, hr⟩ := mapE (o := some false) (g := Br.ret) h
    subst hr
    have h := kr11
    have hh := Option.some.inj h
    subst hh
    refine NWp.ret ?_
    refine And.intro (fun hn => nomatch hn) ?_
    intro hq
    have hq := hq.symm
    subst hq
    show FQ _ _ _ _
    exact FQ.mk1 (.inr rfl) (res_t (v := vb false) rfl rfl) (RV.d trivial)
   ·
    replace h := iteF hc10 h
    refine NWp.condF (t := (x8 != x9)) rfl hc10 ?_
    refine NWp.skip ?_
    have hh := Option.some.inj h
    subst hh
    refine NWp.opsE ⟨tab [(0, vl4 a0), (1, vl4 a1), (5, vi (i2 + 1))], stab [], 0⟩ ?_ ?_
    ·
     refine q1 _ ?_
     refine step (v := vi (i2 + 1)) (st_inc (inc_ok hinv5 hgo4 hB3) rfl rfl) ?_
     refine q1 _ ?_
     exact nR []
    exact And.intro rfl rfl
  ·
   rintro i2 ⟨⟩ hinv5 hgo4
   show NWp _ _ _ _ _ ⟨tab [(0, vl4 a0), (1, vl4 a1), (5, vi i2)], stab [], 0⟩
   have hc6 : ¬ (decide (i2 < (a0.length : Int)) = true) := fun hq => hgo4 (of_decide_eq_true hq)
   refine NWp.seq ?_
   refine NWp.opsJ ⟨tab [(0, vl4 a0), (1, vl4 a1), (5, vi i2), (14, vb (decide (i2 < (a0.length : Int))))], stab [], 0⟩ ?_ ?_
   ·
    iterate 2 refine q1 _ ?_
    refine step (v := vi (a0.length : Int)) (st_len (xs := a0) (e := (D.int .u16)) rfl) ?_
    refine q1 _ ?_
    exact nR []
   refine NWp.condF (t := decide (i2 < (a0.length : Int))) rfl hc6 ?_
   refine NWp.norm (s0 := ⟨tab [], stab [], 0⟩) (nr []) ?_
   refine NWp.exit ?_
   exact And.intro rfl rfl
  ·
   intro r' hq
   subst hq
   exact Option.some.inj h
  rintro ⟨⟩ rfl
  refine NWp.opsJ ⟨tab [(4, vb true)], stab [], 0⟩ ?_ ?_
  ·
   refine q1 _ ?_
   exact nR []
  have hh := Option.some.inj h
  subst hh
  refine NWp.ret ?_
  show FQ _ _ _ _
  exact FQ.mk1 (.inr rfl) (res_t (v := vb true) rfl rfl) (RV.d trivial)

theorem c_ref11_Find {a0 : (List (List Int))} {a1 : (List Int)} {r : Int} (h : ref11_Find a0 a1 = some r) : PCall Tryd.prog 37 [eL none (eL none (D.int .u16)) a0, eL none (D.int .u16) a1] (.int .i64 r) := by
 refine PCall.introN ok37 (show 2 ≤ 19 by decide) ?_
 refine NWp.norm (s0 := ⟨tab [(0, .d (eL none (eL none (D.int .u16)) a0)), (1, vl4 a1)], stab [], 0⟩) (nr []) ?_
 refine NWp.opsJ ⟨tab [(0, .d (eL none (eL none (D.int .u16)) a0)), (1, vl4 a1)], stab [], 0⟩ ?_ ?_
 ·
  refine q1 _ ?_
  exact nR []
 refine NWp.seq ?_
 refine NWp.opsJ ⟨tab [(0, .d (eL none (eL none (D.int .u16)) a0)), (1, vl4 a1), (5, vi 0)], stab [], 0⟩ ?_ ?_
 ·
  refine q1 _ ?_
  exact nR []
 obtain ⟨q10, hl, h⟩ := bindE h
 refine NWp.block ?_
 refine loop_forR (cntU (a0.length : Int)) (fun (i1 : Int) (qq : Unit) => ⟨tab [(0, .d (eL none (eL none (D.int .u16)) a0)), (1, vl4 a1), (5, vi i1)], stab [], 0⟩) 0 (fun (qq : Unit) => ⟨tab [], stab [], 0⟩) Low low_step (r := r) hl (by unfold Low; omega) ?_ ?_ ?_ ?_
 ·
  rintro i1 ⟨⟩ xr6 hinv4 hgo3 h
  show NWp _ _ _ _ _ ⟨tab [(0, .d (eL none (eL none (D.int .u16)) a0)), (1, vl4 a1), (5, vi i1)], stab [], 0⟩
  have hc5 : decide (i1 < (a0.length : Int)) = true := decide_eq_true hgo3
  refine NWp.seq ?_
  refine NWp.opsJ ⟨tab [(0, .d (eL none (eL none (D.int .u16)) a0)), (1, vl4 a1), (5, vi i1), (8, vi (a0.length : Int)), (9, vb (decide (i1 < (a0.length : Int))))], stab [], 0⟩ ?_ ?_
  ·
   iterate 2 refine q1 _ ?_
   refine step (v := vi (a0.length : Int)) (st_len (xs := a0) (e := (eL none (D.int .u16))) rfl) ?_
   refine q1 _ ?_
   exact nR []
  refine NWp.rng 8 rfl fun hB2 => ?_
  refine NWp.condT (t := decide (i1 < (a0.length : Int))) rfl hc5 ?_
  refine NWp.skip ?_
  refine NWp.seq ?_
  refine NWp.block ?_
  obtain ⟨x7, hx7, h⟩ := bindE h
  obtain ⟨r8, hr8, h⟩ := bindE h
  refine NWp.opsJ ⟨tab [(0, .d (eL none (eL none (D.int .u16)) a0)), (1, vl4 a1), (5, vi i1), (17, vb r8)], stab [], 0⟩ ?_ ?_
  ·
   iterate 2 refine q1 _ ?_
   refine step (v := .d (.cptr none (eL none (D.int .u16) x7) 0)) (st_iaddr (xs := a0) (e := (eL none (D.int .u16))) hx7 rfl rfl) ?_
   iterate 2 refine q1 _ ?_
   refine stepC (r := .bool r8) (ArgsOk.dt (ArgsOk.dt ArgsOk.nil')) (c_ref11_Same hr8) ?_
   exact nR []
  by_cases hc9 : r8 = true
  ·
   replace h := iteT hc9 h
   refine NWp.condT (t := r8) rfl hc9 ?_
   refine NWp.opsJ ⟨tab [(4, vi i1)], stab [], 0⟩ ?_ ?_
   ·
    iterate 2 refine q1 _ ?_
    exact nR []
   obtain ⟨r10, kr10, hr⟩ := mapE (o := some i1) (g := Br.ret) h
   subst hr
   have h := kr10
   have hh := Option.some.inj h
   subst hh
   refine NWp.ret ?_
   refine And.intro (fun hn => nomatch hn) ?_
   intro hq
   have hq := hq.symm
   subst hq
   show FQ _ _ _ _
   exact FQ.mk1 (.inr rfl) (res_t (v := vi i1) rfl rfl) (RV.d trivial)
  ·
   replace h := iteF hc9 h
   refine NWp.condF (t := r8) rfl hc9 ?_
   refine NWp.skip ?_
   have hh := Option.some.inj h
   subst hh
   refine NWp.opsE ⟨tab [(0, .d (eL none (eL none (D.int .u16)) a0)), (1, vl4 a1), (5, vi (i1 + 1))], stab [], 0⟩ ?_ ?_
   ·
    refine q1 _ ?_
    refine step (v := vi (i1 + 1)) (st_inc (inc_ok hinv4 hgo3 hB2) rfl rfl) ?_
    refine q1 _ ?_
    exact nR []
   exact And.intro rfl rfl
 ·
  rintro i1 ⟨⟩ hinv4 hgo3
  show NWp _ _ _ _ _ ⟨tab [(0, .d (eL none (eL none (D.int .u16)) a0)), (1, vl4 a1), (5, vi i1)], stab [], 0⟩
  have hc5 : ¬ (decide (i1 < (a0.length : Int)) = true) := fun hq => hgo3 (of_decide_eq_true hq)
  refine NWp.seq ?_
  refine NWp.opsJ ⟨tab [(0, .d (eL none (eL none (D.int .u16)) a0)), (1, vl4 a1), (5, vi i1), (9, vb (decide (i1 < (a0.length : Int))))], stab [], 0⟩ ?_ ?_
  ·
   iterate 2 refine q1 _ ?_
   refine step (v := vi (a0.length : Int)) (st_len (xs := a0) (e := (eL none (D.int .u16))) rfl) ?_
   refine q1 _ ?_
   exact nR []
  refine NWp.condF (t := decide (i1 < (a0.length : Int))) rfl hc5 ?_
  refine NWp.norm (s0 := ⟨tab [], stab [], 0⟩) (nr []) ?_
  refine NWp.exit ?_
  exact And.intro rfl rfl
 ·
  intro r' hq
  subst hq
  exact Option.some.inj h
 rintro ⟨⟩ rfl
 refine NWp.opsJ ⟨tab [(4, vi (-1))], stab [], 0⟩ ?_ ?_
 ·
  refine q1 _ ?_
  exact nR []
 have hh := Option.some.inj h
 subst hh
 refine NWp.ret ?_
 show FQ _ _ _ _
 exact FQ.mk1 (.inr rfl) (res_t (v := vi (-1)) rfl rfl) (RV.d trivial)

theorem c_ref11_round {a0 : api_Space} {r : Bool} (h : ref11_round a0 = some r) : PCall Tryd.prog 38 [eapi_Space a0] (.bool r) := by
 refine PCall.introN ok38 (show 1 ≤ 75 by decide) ?_
 refine NWp.norm (s0 := ⟨tab [(0, vs4 a0)], stab [], 0⟩) (nr []) ?_
 refine NWp.opsJ ⟨tab [(1, vp1 a0)], stab [], 0⟩ ?_ ?_
 ·
  iterate 2 refine q1 _ ?_
  exact nR []
 obtain ⟨l1, hl1, h⟩ := bindE h
 refine NWp.opsJ ⟨tab [(1, vp1 a0), (3, .loc 0 0 l1.length)], stab [(0, .lst true none (List.map D.bool l1))], 1⟩ ?_ ?_
 ·
  iterate 2 refine q1 _ ?_
  refine step (v := vi (a0.States.length : Int)) (st_len (xs := a0.States) (e := (eL none (D.int .u16))) rfl) ?_
  refine step (v := .loc 0 0 l1.length) (σ' := (upd (stab []) 0 (some (.lst true none (List.map D.bool l1))))) (n' := 1) (st_mk (e := D.bool) (z := false) hl1 rfl rfl (gmk_le hl1)) ?_
  refine q1 _ ?_
  exact nR [0]
 refine NWp.seq ?_
 refine NWp.opsJ ⟨tab [(1, vp1 a0), (3, .loc 0 0 l1.length), (4, vi 0)], stab [(0, .lst true none (List.map D.bool l1))], 1⟩ ?_ ?_
 ·
  refine q1 _ ?_
  exact nR [0]
 obtain ⟨z41, hl, h⟩ := bindE h
 refine NWp.block ?_
 refine loop_forO (cntU (a0.States.length : Int)) (fun (i3 : Int) (qq : (List Bool)) => ⟨tab [(1, vp1 a0), (3, .loc 0 0 qq.length), (4, vi i3)], stab [(0, .lst true none (List.map D.bool qq))], 1⟩) 0 (fun (qq : (List Bool)) => ⟨tab [(3, .loc 0 0 qq.length)], stab [(0, .lst true none (List.map D.bool qq))], 1⟩) Low low_step hl (by unfold Low; omega) ?_ ?_ ?_
 ·
  rintro i3 l2 xr8 hinv6 hgo5 h
  show NWp _ _ _ _ _ ⟨tab [(1, vp1 a0), (3, .loc 0 0 l2.length), (4, vi i3)], stab [(0, .lst true none (List.map D.bool l2))], 1⟩
  have hc7 : decide (i3 < (a0.States.length : Int)) = true := decide_eq_true hgo5
  refine NWp.seq ?_
  refine NWp.opsJ ⟨tab [(1, vp1 a0), (3, .loc 0 0 l2.length), (4, vi i3), (16, vi (a0.States.length : Int)), (17, vb (decide (i3 < (a0.States.length : Int))))], stab [(0, .lst true none (List.map D.bool l2))], 1⟩ ?_ ?_
  ·
   iterate 3 refine q1 _ ?_
   refine step (v := vi (a0.States.length : Int)) (st_len (xs := a0.States) (e := (eL none (D.int .u16))) rfl) ?_
   refine q1 _ ?_
   exact nR [0]
  refine NWp.rng 16 rfl fun hB4 => ?_
  refine NWp.condT (t := decide (i3 < (a0.States.length : Int))) rfl hc7 ?_
  refine NWp.skip ?_
  refine NWp.seq ?_
  refine NWp.block ?_
  refine NWp.opsJ ⟨tab [(1, vp1 a0), (3, .loc 0 0 l2.length), (4, vi i3), (5, vi 0)], stab [(0, .lst true none (List.map D.bool l2))], 1⟩ ?_ ?_
  ·
   refine q1 _ ?_
   exact nR [0]
  obtain ⟨z39, hl, h⟩ := bindE h
  refine NWp.block ?_
  refine loop_forO (cntU (a0.States.length : Int)) (fun (i10 : Int) (qq : (List Bool)) => ⟨tab [(1, vp1 a0), (3, .loc 0 0 qq.length), (4, vi i3), (5, vi i10)], stab [(0, .lst true none (List.map D.bool qq))], 1⟩) 2 (fun (qq : (List Bool)) => ⟨tab [(1, vp1 a0), (3, .loc 0 0 qq.length), (4, vi i3)], stab [(0, .lst true none (List.map D.bool qq))], 1⟩) Low low_step hl (by unfold Low; omega) ?_ ?_ ?_
  ·
   rintro i10 l9 xr15 hinv13 hgo12 h
   show NWp _ _ _ _ _ ⟨tab [(1, vp1 a0), (3, .loc 0 0 l9.length), (4, vi i3), (5, vi i10)], stab [(0, .lst true none (List.map D.bool l9))], 1⟩
   have hc14 : decide (i10 < (a0.States.length : Int)) = true := decide_eq_true hgo12
   refine NWp.seq ?_
   refine NWp.opsJ ⟨tab [(1, vp1 a0), (3, .loc 0 0 l9.length), (4, vi i3), (5, vi i10), (23, vi (a0.States.length : Int)), (24, vb (decide (i10 < (a0.States.length : Int))))], stab [(0, .lst true none (List.map D.bool l9))], 1⟩ ?_ ?_
   ·
    iterate 3 refine q1 _ ?_
    refine step (v := vi (a0.States.length : Int)) (st_len (xs := a0.States) (e := (eL none (D.int .u16))) rfl) ?_
    refine q1 _ ?_
    exact nR [0]
   refine NWp.rng 23 rfl fun hB11 => ?_
   refine NWp.condT (t := decide (i10 < (a0.States.length : Int))) rfl hc14 ?_
   refine NWp.skip ?_
   refine NWp.seq ?_
   refine NWp.block ?_
   refine NWp.opsJ ⟨tab [(1, vp1 a0), (3, .loc 0 0 l9.length), (4, vi i3), (5, vi i10), (6, vb true)], stab [(0, .lst true none (List.map D.bool l9))], 1⟩ ?_ ?_
   ·
    refine q1 _ ?_
    exact nR [0]
   refine NWp.seq ?_
   refine NWp.opsJ ⟨tab [(1, vp1 a0), (3, .loc 0 0 l9.length), (4, vi i3), (5, vi i10), (6, vb true), (7, vi 0)], stab [(0, .lst true none (List.map D.bool l9))], 1⟩ ?_ ?_
   ·
    refine q1 _ ?_
    exact nR [0]
   obtain ⟨z31, hl, h⟩ := bindE h
   refine NWp.block ?_
   refine loop_forO (cntU (a0.Edges.length : Int)) (fun (i17 : Int) (qq : Bool) => ⟨tab [(1, vp1 a0), (3, .loc 0 0 l9.length), (4, vi i3), (5, vi i10), (6, vb qq), (7, vi i17)], stab [(0, .lst true none (List.map D.bool l9))], 1⟩) 4 (fun (qq : Bool) => ⟨tab [(1, vp1 a0), (3, .loc 0 0 l9.length), (4, vi i3), (5, vi i10), (6, vb qq)], stab [(0, .lst true none (List.map D.bool l9))], 1⟩) Low low_step hl (by unfold Low; omega) ?_ ?_ ?_
   ·
    rintro i17 y16 xr22 hinv20 hgo19 h
    show NWp _ _ _ _ _ ⟨tab [(1, vp1 a0), (3, .loc 0 0 l9.length), (4, vi i3), (5, vi i10), (6, vb y16), (7, vi i17)], stab [(0, .lst true none (List.map D.bool l9))], 1⟩
    have hc21 : decide (i17 < (a0.Edges.length : Int)) = true := decide_eq_true hgo19
    refine NWp.seq ?_
    refine NWp.opsJ ⟨tab [(1, vp1 a0), (3, .loc 0 0 l9.length), (4, vi i3), (5, vi i10), (6, vb y16), (7, vi i17), (30, vi (a0.Edges.length : Int)), (31, vb (decide (i17 < (a0.Edges.length : Int))))], stab [(0, .lst true none (List.map D.bool l9))], 1⟩ ?_ ?_
    ·
     iterate 3 refine q1 _ ?_
     refine step (v := vi (a0.Edges.length : Int)) (st_len (xs := a0.Edges) (e := eapi_Edge) rfl) ?_
     refine q1 _ ?_
     exact nR [0]
    refine NWp.rng 30 rfl fun hB18 => ?_
    refine NWp.condT (t := decide (i17 < (a0.Edges.length : Int))) rfl hc21 ?_
    refine NWp.skip ?_
    obtain ⟨y29, hv, h⟩ := bindE h
    refine NWp.seqN ⟨tab [(1, vp1 a0), (3, .loc 0 0 l9.length), (4, vi i3), (5, vi i10), (6, vb y29), (7, vi i17)], stab [(0, .lst true none (List.map D.bool l9))], 1⟩ ?_ ?_
    ·
     replace h := hv
     refine NWp.block ?_
     obtain ⟨x23, hx23, h⟩ := bindE h
     obtain ⟨y26, hv, h⟩ := bindE h
     refine NWp.opsJ ⟨tab [(1, vp1 a0), (3, .loc 0 0 l9.length), (4, vi i3), (5, vi i10), (6, vb y16), (7, vi i17), (53, vb y26)], stab [(0, .lst true none (List.map D.bool l9))], 1⟩ ?_ ?_
     ·
      iterate 3 refine q1 _ ?_
      refine step (v := .d (.cptr (some 3) (eapi_Edge x23) 0)) (st_iaddr (xs := a0.Edges) (e := eapi_Edge) hx23 rfl rfl) ?_
      iterate 5 refine q1 _ ?_
      by_cases hg24 : (x23.From == i10) = true
      ·
       replace hv := iteT hg24 hv
       obtain ⟨x25, hx25, hv⟩ := bindE hv
       refine qG _ hg24 ?_
       refine q1 _ ?_
       refine qG _ hg24 ?_
       refine q1 _ ?_
       refine qG _ hg24 ?_
       refine q1 _ ?_
       refine qG _ hg24 ?_
       refine q1 _ ?_
       refine qG _ hg24 ?_
       refine step (v := .d (.cptr (some 3) (eapi_Edge x23) 0)) (st_iaddr (xs := a0.Edges) (e := eapi_Edge) hx23 rfl rfl) ?_
       refine qG _ hg24 ?_
       refine q1 _ ?_
       refine qG _ hg24 ?_
       refine q1 _ ?_
       refine qG _ hg24 ?_
       refine step (v := .ptr 0 x23.To.toNat 0) (st_iaddrL (xs := l9) (e := D.bool) hx25 rfl rfl rfl rfl) ?_
       refine qG _ hg24 ?_
       refine step (v := vb x25) (st_loadL (xs := l9) (e := D.bool) hx25 rfl rfl rfl) ?_
       refine qG _ hg24 ?_
       refine q1 _ ?_
       refine step (v := vb (!x25)) (st_pickT (b := (x23.From == i10)) rfl hg24 rfl) ?_
       have hh := Option.some.inj hv
       subst hh
       exact nR [0]
      ·
       replace hv := iteF hg24 hv
       iterate 10 refine qX _ hg24 ?_
       refine step (v := vb false) (st_pickF (b := (x23.From == i10)) rfl hg24 rfl) ?_
       have hh := Option.some.inj hv
       subst hh
       exact nR [0]
     by_cases hc28 : y26 = true
     ·
      replace h := iteT hc28 h
      refine NWp.condT (t := y26) rfl hc28 ?_
      have hh := Option.some.inj h
      subst hh
      refine NWp.opsE ⟨tab [(1, vp1 a0), (3, .loc 0 0 l9.length), (4, vi i3), (5, vi i10), (6, vb false), (7, vi i17)], stab [(0, .lst true none (List.map D.bool l9))], 1⟩ ?_ ?_
      ·
       refine q1 _ ?_
       exact nR [0]
      exact And.intro rfl rfl
     ·
      replace h := iteF hc28 h
      refine NWp.condF (t := y26) rfl hc28 ?_
      have hh := Option.some.inj h
      subst hh
      refine NWp.norm (s0 := ⟨tab [(1, vp1 a0), (3, .loc 0 0 l9.length), (4, vi i3), (5, vi i10), (6, vb y16), (7, vi i17)], stab [(0, .lst true none (List.map D.bool l9))], 1⟩) (nr [0]) ?_
      refine NWp.skip ?_
      exact And.intro rfl rfl
    have hh := Option.some.inj h
    subst hh
    refine NWp.opsE ⟨tab [(1, vp1 a0), (3, .loc 0 0 l9.length), (4, vi i3), (5, vi i10), (6, vb y29), (7, vi (i17 + 1))], stab [(0, .lst true none (List.map D.bool l9))], 1⟩ ?_ ?_
    ·
     refine q1 _ ?_
     refine step (v := vi (i17 + 1)) (st_inc (inc_ok hinv20 hgo19 hB18) rfl rfl) ?_
     refine q1 _ ?_
     exact nR [0]
    exact And.intro rfl rfl
   ·
    rintro i17 y16 hinv20 hgo19
    show NWp _ _ _ _ _ ⟨tab [(1, vp1 a0), (3, .loc 0 0 l9.length), (4, vi i3), (5, vi i10), (6, vb y16), (7, vi i17)], stab [(0, .lst true none (List.map D.bool l9))], 1⟩
    have hc21 : ¬ (decide (i17 < (a0.Edges.length : Int)) = true) := fun hq => hgo19 (of_decide_eq_true hq)
    refine NWp.seq ?_
    refine NWp.opsJ ⟨tab [(1, vp1 a0), (3, .loc 0 0 l9.length), (4, vi i3), (5, vi i10), (6, vb y16), (7, vi i17), (31, vb (decide (i17 < (a0.Edges.length : Int))))], stab [(0, .lst true none (List.map D.bool l9))], 1⟩ ?_ ?_
    ·
     iterate 3 refine q1 _ ?_
     refine step (v := vi (a0.Edges.length : Int)) (st_len (xs := a0.Edges) (e := eapi_Edge) rfl) ?_
     refine q1 _ ?_
     exact nR [0]
    refine NWp.condF (t := decide (i17 < (a0.Edges.length : Int))) rfl hc21 ?_
    refine NWp.norm (s0 := ⟨tab [(1, vp1 a0), (3, .loc 0 0 l9.length), (4, vi i3), (5, vi i10), (6, vb y16)], stab [(0, .lst true none (List.map D.bool l9))], 1⟩) (nr [0]) ?_
    refine NWp.exit ?_
    exact And.intro rfl rfl
   obtain ⟨x32, hx32, h⟩ := bindE h
   obtain ⟨l36, hv, h⟩ := bindE h
   refine NWp.opsE ⟨tab [(1, vp1 a0), (3, .loc 0 0 l36.length), (4, vi i3), (5, vi i10)], stab [(0, .lst true none (List.map D.bool l36))], 1⟩ ?_ ?_
   ·
    iterate 4 refine q1 _ ?_
    refine step (v := .ptr 0 i10.toNat 0) (st_iaddrL (xs := l9) (e := D.bool) hx32 rfl rfl rfl rfl) ?_
    refine step (v := vb x32) (st_loadL (xs := l9) (e := D.bool) hx32 rfl rfl rfl) ?_
    refine q1 _ ?_
    by_cases hg33 : x32 = true
    ·
     replace hv := iteT hg33 hv
     obtain ⟨l34, hl34, hv⟩ := bindE hv
     refine qX x32 (by rw [hg33]; decide) ?_
     refine step (v := vb true) (st_pickT (b := x32) rfl hg33 rfl) ?_
     refine step (v := .ptr 0 i10.toNat 0) (st_iaddrL (xs := l9) (e := D.bool) hx32 rfl rfl rfl rfl) ?_
     refine step (v := V.undef) (σ' := (upd (stab [(0, .lst true none (List.map D.bool l9))]) 0 (some (.lst true none (List.map D.bool l34))))) (n' := 1) (st_storeL' (e := D.bool) (v' := true) hl34 rfl rfl rfl rfl rfl) ?_
     have hh := Option.some.inj hv
     subst hh
     exact RunOps.nil' (nm [0] ⟨.d _, .le (id := 0) (gput_len hl34).symm (show 0 < 1 by decide), .d _, .d _, trivial⟩ ⟨⟨show 0 < 1 by decide, _, rfl, .lst _ _ _⟩, trivial⟩)
    ·
     replace hv := iteF hg33 hv
     obtain ⟨l35, hl35, hv⟩ := bindE hv
     refine qG x32 (Bool.eq_false_iff.2 hg33) ?_
     refine q1 _ ?_
     refine step (v := vb z31) (st_pickF (b := x32) rfl hg33 rfl) ?_
     refine step (v := .ptr 0 i10.toNat 0) (st_iaddrL (xs := l9) (e := D.bool) hx32 rfl rfl rfl rfl) ?_
     refine step (v := V.undef) (σ' := (upd (stab [(0, .lst true none (List.map D.bool l9))]) 0 (some (.lst true none (List.map D.bool l35))))) (n' := 1) (st_storeL' (e := D.bool) (v' := z31) hl35 rfl rfl rfl rfl rfl) ?_
     have hh := Option.some.inj hv
     subst hh
     exact RunOps.nil' (nm [0] ⟨.d _, .le (id := 0) (gput_len hl35).symm (show 0 < 1 by decide), .d _, .d _, trivial⟩ ⟨⟨show 0 < 1 by decide, _, rfl, .lst _ _ _⟩, trivial⟩)
   have hh := Option.some.inj h
   subst hh
   refine NWp.opsE ⟨tab [(1, vp1 a0), (3, .loc 0 0 l36.length), (4, vi i3), (5, vi (i10 + 1))], stab [(0, .lst true none (List.map D.bool l36))], 1⟩ ?_ ?_
   ·
    refine q1 _ ?_
    refine step (v := vi (i10 + 1)) (st_inc (inc_ok hinv13 hgo12 hB11) rfl rfl) ?_
    refine q1 _ ?_
    exact nR [0]
   exact And.intro rfl rfl
  ·
   rintro i10 l9 hinv13 hgo12
   show NWp _ _ _ _ _ ⟨tab [(1, vp1 a0), (3, .loc 0 0 l9.length), (4, vi i3), (5, vi i10)], stab [(0, .lst true none (List.map D.bool l9))], 1⟩
   have hc14 : ¬ (decide (i10 < (a0.States.length : Int)) = true) := fun hq => hgo12 (of_decide_eq_true hq)
   refine NWp.seq ?_
   refine NWp.opsJ ⟨tab [(1, vp1 a0), (3, .loc 0 0 l9.length), (4, vi i3), (5, vi i10), (24, vb (decide (i10 < (a0.States.length : Int))))], stab [(0, .lst true none (List.map D.bool l9))], 1⟩ ?_ ?_
   ·
    iterate 3 refine q1 _ ?_
    refine step (v := vi (a0.States.length : Int)) (st_len (xs := a0.States) (e := (eL none (D.int .u16))) rfl) ?_
    refine q1 _ ?_
    exact nR [0]
   refine NWp.condF (t := decide (i10 < (a0.States.length : Int))) rfl hc14 ?_
   refine NWp.norm (s0 := ⟨tab [(1, vp1 a0), (3, .loc 0 0 l9.length), (4, vi i3)], stab [(0, .lst true none (List.map D.bool l9))], 1⟩) (nr [0]) ?_
   refine NWp.exit ?_
   exact And.intro rfl rfl
  have hh := Option.some.inj h
  subst hh
  refine NWp.opsE ⟨tab [(1, vp1 a0), (3, .loc 0 0 z39.length), (4, vi (i3 + 1))], stab [(0, .lst true none (List.map D.bool z39))], 1⟩ ?_ ?_
  ·
   refine q1 _ ?_
   refine step (v := vi (i3 + 1)) (st_inc (inc_ok hinv6 hgo5 hB4) rfl rfl) ?_
   refine q1 _ ?_
   exact nR [0]
  exact And.intro rfl rfl
 ·
  rintro i3 l2 hinv6 hgo5
  show NWp _ _ _ _ _ ⟨tab [(1, vp1 a0), (3, .loc 0 0 l2.length), (4, vi i3)], stab [(0, .lst true none (List.map D.bool l2))], 1⟩
  have hc7 : ¬ (decide (i3 < (a0.States.length : Int)) = true) := fun hq => hgo5 (of_decide_eq_true hq)
  refine NWp.seq ?_
  refine NWp.opsJ ⟨tab [(1, vp1 a0), (3, .loc 0 0 l2.length), (4, vi i3), (17, vb (decide (i3 < (a0.States.length : Int))))], stab [(0, .lst true none (List.map D.bool l2))], 1⟩ ?_ ?_
  ·
   iterate 3 refine q1 _ ?_
   refine step (v := vi (a0.States.length : Int)) (st_len (xs := a0.States) (e := (eL none (D.int .u16))) rfl) ?_
   refine q1 _ ?_
   exact nR [0]
  refine NWp.condF (t := decide (i3 < (a0.States.length : Int))) rfl hc7 ?_
  refine NWp.norm (s0 := ⟨tab [(3, .loc 0 0 l2.length)], stab [(0, .lst true none (List.map D.bool l2))], 1⟩) (nr [0]) ?_
  refine NWp.exit ?_
  exact And.intro rfl rfl
 refine NWp.seq ?_
 refine NWp.opsJ ⟨tab [(3, .loc 0 0 z41.length), (8, vi 0)], stab [(0, .lst true none (List.map D.bool z41))], 1⟩ ?_ ?_
 ·
  refine q1 _ ?_
  exact nR [0]
 obtain ⟨q50, hl, h⟩ := bindE h
 refine NWp.block ?_
 refine loop_forR (cntU (z41.length : Int)) (fun (i42 : Int) (qq : Unit) => ⟨tab [(3, .loc 0 0 z41.length), (8, vi i42)], stab [(0, .lst true none (List.map D.bool z41))], 1⟩) 6 (fun (qq : Unit) => ⟨tab [], stab [], 0⟩) Low low_step (r := r) hl (by unfold Low; omega) ?_ ?_ ?_ ?_
 ·
  rintro i42 ⟨⟩ xr47 hinv45 hgo44 h
  show NWp _ _ _ _ _ ⟨tab [(3, .loc 0 0 z41.length), (8, vi i42)], stab [(0, .lst true none (List.map D.bool z41))], 1⟩
  have hc46 : decide (i42 < (z41.length : Int)) = true := decide_eq_true hgo44
  refine NWp.seq ?_
  refine NWp.opsJ ⟨tab [(3, .loc 0 0 z41.length), (8, vi i42), (66, vi (z41.length : Int)), (67, vb (decide (i42 < (z41.length : Int))))], stab [(0, .lst true none (List.map D.bool z41))], 1⟩ ?_ ?_
  ·
   iterate 4 refine q1 _ ?_
   exact nR [0]
  refine NWp.rng 66 rfl fun hB43 => ?_
  refine NWp.condT (t := decide (i42 < (z41.length : Int))) rfl hc46 ?_
  refine NWp.skip ?_
  refine NWp.seq ?_
  refine NWp.block ?_
  obtain ⟨x48, hx48, h⟩ := bindE h
  refine NWp.opsJ ⟨tab [(3, .loc 0 0 z41.length), (8, vi i42), (74, vb (!x48))], stab [(0, .lst true none (List.map D.bool z41))], 1⟩ ?_ ?_
  ·
   iterate 2 refine q1 _ ?_
   refine step (v := .ptr 0 i42.toNat 0) (st_iaddrL (xs := z41) (e := D.bool) hx48 rfl rfl rfl rfl) ?_
   refine step (v := vb x48) (st_loadL (xs := z41) (e := D.bool) hx48 rfl rfl rfl) ?_
   refine q1 _ ?_
   exact nR [0]
  by_cases hc49 : (!x48) = true
  ·
   replace h := iteT hc49 h
   refine NWp.condT (t := (!x48)) rfl hc49 ?_
   refine NWp.opsJ ⟨tab [(2, vb true)], stab [], 0⟩ ?_ ?_
   ·
    refine q1 _ ?_
    exact nR []
   obtain ⟨r50, kr50, hr⟩ := mapE (o := some true) (g := Br.ret) h
   subst hr
   have h := kr50
   have hh := Option.some.inj h
   subst hh
   refine NWp.ret ?_
   refine And.intro (fun hn => nomatch hn) ?_
   intro hq
   have hq := hq.symm
   subst hq
   show FQ _ _ _ _
   exact FQ.mk1 (.inr rfl) (res_t (v := vb true) rfl rfl) (RV.d trivial)
  ·
   replace h := iteF hc49 h
   refine NWp.condF (t := (!x48)) rfl hc49 ?_
   refine NWp.skip ?_
   have hh := Option.some.inj h
   subst hh
   refine NWp.opsE ⟨tab [(3, .loc 0 0 z41.length), (8, vi (i42 + 1))], stab [(0, .lst true none (List.map D.bool z41))], 1⟩ ?_ ?_
   ·
    refine q1 _ ?_
    refine step (v := vi (i42 + 1)) (st_inc (inc_ok hinv45 hgo44 hB43) rfl rfl) ?_
    refine q1 _ ?_
    exact nR [0]
   exact And.intro rfl rfl
 ·
  rintro i42 ⟨⟩ hinv45 hgo44
  show NWp _ _ _ _ _ ⟨tab [(3, .loc 0 0 z41.length), (8, vi i42)], stab [(0, .lst true none (List.map D.bool z41))], 1⟩
  have hc46 : ¬ (decide (i42 < (z41.length : Int)) = true) := fun hq => hgo44 (of_decide_eq_true hq)
  refine NWp.seq ?_
  refine NWp.opsJ ⟨tab [(3, .loc 0 0 z41.length), (8, vi i42), (67, vb (decide (i42 < (z41.length : Int))))], stab [(0, .lst true none (List.map D.bool z41))], 1⟩ ?_ ?_
  ·
   iterate 4 refine q1 _ ?_
   exact nR [0]
  refine NWp.condF (t := decide (i42 < (z41.length : Int))) rfl hc46 ?_
  refine NWp.norm (s0 := ⟨tab [], stab [], 0⟩) (nr []) ?_
  refine NWp.exit ?_
  exact And.intro rfl rfl
 ·
  intro r' hq
  subst hq
  exact Option.some.inj h
 rintro ⟨⟩ rfl
 refine NWp.opsJ ⟨tab [(2, vb false)], stab [], 0⟩ ?_ ?_
 ·
  refine q1 _ ?_
  exact nR []
 have hh := Option.some.inj h
 subst hh
 refine NWp.ret ?_
 show FQ _ _ _ _
 exact FQ.mk1 (.inr rfl) (res_t (v := vb false) rfl rfl) (RV.d trivial)

theorem c_ref11_Explore {a0 : api_Program} {r : (api_Space × Int)} (h : ref11_Explore a0 = some r) : PCall Tryd.prog 22 [eapi_Program a0] (.tup [eapi_Space r.1, .int .i64 r.2]) := by
 refine PCall.introN ok22 (show 1 ≤ 101 by decide) ?_
 refine NWp.norm (s0 := ⟨tab [(0, vs2 a0)], stab [], 0⟩) (nr []) ?_
 refine NWp.opsJ ⟨tab [(1, vp2 a0), (2, .ptr 0 0 0)], stab [(0, .var [.d (eL none (eL none (D.int .u16)) []), vl3 []])], 1⟩ ?_ ?_
 ·
  refine q1 _ ?_
  refine step (v := .ptr 0 0 0) (σ' := (upd (stab []) 0 (some (.var [.d (eL none (eL none (D.int .u16)) []), vl3 []])))) (n' := 1) rfl ?_
  refine q1 _ ?_
  exact nR [0]
 refine NWp.opsJ ⟨tab [(1, vp2 a0), (2, .ptr 0 0 0), (4, .ptr 1 0 0)], stab [(0, .var [.d (eL none (eL none (D.int .u16)) []), vl3 []]), (1, .var [.d (eL none (eL none (D.int .u16)) []), vl3 []])], 2⟩ ?_ ?_
 ·
  refine step (v := vs4 (api_Space.mk [] [])) (st_build (ds := [eL none (eL none (D.int .u16)) [], eL (some 3) eapi_Edge []]) rfl) ?_
  refine step (v := .ptr 1 0 0) (σ' := (upd (stab [(0, .var [.d (eL none (eL none (D.int .u16)) []), vl3 []])]) 1 (some (.var [.d (eL none (eL none (D.int .u16)) []), vl3 []])))) (n' := 2) rfl ?_
  refine step (v := V.undef) (σ' := (upd (upd (stab [(0, .var [.d (eL none (eL none (D.int .u16)) []), vl3 []])]) 1 (some (.var [.d (eL none (eL none (D.int .u16)) []), vl3 []]))) 1 (some (.var [.d (eL none (eL none (D.int .u16)) []), vl3 []])))) (n' := 2) rfl ?_
  exact nR [0, 1]
 obtain ⟨r1, hr1, h⟩ := bindE h
 refine NWp.opsJ ⟨tab [(1, vp2 a0), (2, .ptr 0 0 0), (4, .ptr 1 0 0), (5, vi r1)], stab [(0, .var [.d (eL none (eL none (D.int .u16)) []), vl3 []]), (1, .var [.d (eL none (eL none (D.int .u16)) []), vl3 []])], 2⟩ ?_ ?_
 ·
  refine q1 _ ?_
  refine stepC (r := .int .i64 r1) (ArgsOk.dt ArgsOk.nil') (c_ref05_Check hr1) ?_
  refine q1 _ ?_
  exact nR [0, 1]
 refine NWp.seq ?_
 refine NWp.opsJ ⟨tab [(1, vp2 a0), (2, .ptr 0 0 0), (4, .ptr 1 0 0), (5, vi r1), (15, vb (r1 != 0))], stab [(0, .var [.d (eL none (eL none (D.int .u16)) []), vl3 []]), (1, .var [.d (eL none (eL none (D.int .u16)) []), vl3 []])], 2⟩ ?_ ?_
 ·
  iterate 2 refine q1 _ ?_
  exact nR [0, 1]
 by_cases hc2 : (r1 != 0) = true
 ·
  replace h := iteT hc2 h
  refine NWp.condT (t := (r1 != 0)) rfl hc2 ?_
  refine NWp.opsJ ⟨tab [(2, .ptr 0 0 0), (3, vi r1)], stab [(0, .var [.d (eL none (eL none (D.int .u16)) []), vl3 []])], 1⟩ ?_ ?_
  ·
   refine step (v := vs4 (api_Space.mk [] [])) (st_ldV (ds := [eL none (eL none (D.int .u16)) [], eL (some 3) eapi_Edge []]) rfl rfl (show 2 ≤ 2 by decide) rfl) ?_
   refine q1 _ ?_
   refine step (v := V.undef) (σ' := (upd (stab [(0, .var [.d (eL none (eL none (D.int .u16)) []), vl3 []]), (1, .var [.d (eL none (eL none (D.int .u16)) []), vl3 []])]) 0 (some (.var [.d (eL none (eL none (D.int .u16)) []), vl3 []])))) (n' := 2) rfl ?_
   refine q1 _ ?_
   exact nR [0]
  have hh := Option.some.inj h
  subst hh
  refine NWp.ret ?_
  show FQ _ _ _ _
  exact FQ.mkT (.inr rfl) (res_cell (ds := [eL none (eL none (D.int .u16)) [], eL (some 3) eapi_Edge []]) rfl rfl (show 2 ≤ 2 by decide) rfl (res_t (v := vi r1) rfl rfl)) (RV.d (RV.d trivial))
 ·
  replace h := iteF hc2 h
  refine NWp.condF (t := (r1 != 0)) rfl hc2 ?_
  refine NWp.skip ?_
  obtain ⟨l3, hl3, h⟩ := bindE h
  refine NWp.opsJ ⟨tab [(1, vp2 a0), (2, .ptr 0 0 0), (4, .ptr 1 0 0), (6, .ptr 2 0 0)], stab [(0, .var [.d (eL none (eL none (D.int .u16)) []), vl3 []]), (1, .var [.d (eL none (eL none (D.int .u16)) []), vl3 []]), (2, .var [.loc 3 0 (([l3] : List (List Int)).length), .d (.nils)]), (3, .lst false none (List.map (eL none (D.int .u16)) ([l3] : List (List Int))))], 4⟩ ?_ ?_
  ·
   refine step (v := .loc 2 0 (([] : List Int).length)) (σ' := (upd (stab [(0, .var [.d (eL none (eL none (D.int .u16)) []), vl3 []]), (1, .var [.d (eL none (eL none (D.int .u16)) []), vl3 []])]) 2 (some (.lst false none (List.map (D.int .u16) ([] : List Int)))))) (n' := 3) rfl ?_
   iterate 2 refine q1 _ ?_
   refine step (v := .loc 3 0 l3.length) (σ' := (upd (upd (upd (stab [(0, .var [.d (eL none (eL none (D.int .u16)) []), vl3 []]), (1, .var [.d (eL none (eL none (D.int .u16)) []), vl3 []])]) 2 (some (.lst false none (List.map (D.int .u16) ([] : List Int))))) 2 none) 3 (some (.lst false none (List.map (D.int .u16) l3))))) (n' := 4) (st_app (xs := ([] : List Int)) (ys := a0.Init) (e := (D.int .u16)) hl3 rfl rfl rfl (src_v (xs := a0.Init) (e := (D.int .u16)) rfl)) ?_
   refine step (v := .loc 4 0 (([l3] : List (List Int)).length)) (σ' := (upd (upd (upd (upd (stab [(0, .var [.d (eL none (eL none (D.int .u16)) []), vl3 []]), (1, .var [.d (eL none (eL none (D.int .u16)) []), vl3 []])]) 2 (some (.lst false none (List.map (D.int .u16) ([] : List Int))))) 2 none) 3 (some (.lst false none (List.map (D.int .u16) l3)))) 4 (some (.lst false none (List.map (eL none (D.int .u16)) ([l3] : List (List Int))))))) (n' := 5) (st_bsliceV (ds := List.map (eL none (D.int .u16)) ([l3] : List (List Int))) (optC (f := fun x => viewA _ (evT _ x)) (va_l (xs := l3) (e := (D.int .u16)) rfl rfl) optN) rfl) ?_
   refine q1 _ ?_
   refine step (v := .ptr 5 0 0) (σ' := (upd (upd (upd (upd (upd (stab [(0, .var [.d (eL none (eL none (D.int .u16)) []), vl3 []]), (1, .var [.d (eL none (eL none (D.int .u16)) []), vl3 []])]) 2 (some (.lst false none (List.map (D.int .u16) ([] : List Int))))) 2 none) 3 (some (.lst false none (List.map (D.int .u16) l3)))) 4 (some (.lst false none (List.map (eL none (D.int .u16)) ([l3] : List (List Int)))))) 5 (some (.var [.d (.nils), .d (.nils)])))) (n' := 6) rfl ?_
   refine step (v := V.undef) (σ' := (upd (upd (upd (upd (upd (upd (stab [(0, .var [.d (eL none (eL none (D.int .u16)) []), vl3 []]), (1, .var [.d (eL none (eL none (D.int .u16)) []), vl3 []])]) 2 (some (.lst false none (List.map (D.int .u16) ([] : List Int))))) 2 none) 3 (some (.lst false none (List.map (D.int .u16) l3)))) 4 (some (.lst false none (List.map (eL none (D.int .u16)) ([l3] : List (List Int)))))) 5 (some (.var [.d (.nils), .d (.nils)]))) 5 (some (.var [.loc 4 0 (([l3] : List (List Int)).length), .d (.nils)])))) (n' := 6) rfl ?_
   exact nR [0, 1, 5, 4]
  refine NWp.seq ?_
  refine NWp.opsJ ⟨tab [(1, vp2 a0), (2, .ptr 0 0 0), (4, .ptr 1 0 0), (6, .ptr 2 0 0), (7, vi 0)], stab [(0, .var [.d (eL none (eL none (D.int .u16)) []), vl3 []]), (1, .var [.d (eL none (eL none (D.int .u16)) []), vl3 []]), (2, .var [.loc 3 0 (([l3] : List (List Int)).length), .d (.nils)]), (3, .lst false none (List.map (eL none (D.int .u16)) ([l3] : List (List Int))))], 4⟩ ?_ ?_
  ·
   refine q1 _ ?_
   exact nR [0, 1, 2, 3]
  obtain ⟨q43, hl, h⟩ := bindE h
  refine NWp.norm (s0 := ⟨tab [(1, vp2 a0), (2, .ptr 0 0 0), (4, .ptr 1 0 0), (6, .ptr 2 0 0), (7, vi 0)], stab [(0, .var [.d (eL none (eL none (D.int .u16)) []), vl3 []]), (1, .var [.d (eL none (eL none (D.int .u16)) []), vl3 []]), (2, .var [.loc 3 0 (([l3] : List (List Int)).length), .loc 4 0 (([] : List api_Edge).length)]), (3, .lst false none (List.map (eL none (D.int .u16)) ([l3] : List (List Int)))), (4, .lst false (some 3) (List.map eapi_Edge ([] : List api_Edge)))], 5⟩) (Norm.trans (s2 := ⟨tab [(1, vp2 a0), (2, .ptr 0 0 0), (4, .ptr 1 0 0), (6, .ptr 2 0 0), (7, vi 0)], stab [(0, .var [.d (eL none (eL none (D.int .u16)) []), vl3 []]), (1, .var [.d (eL none (eL none (D.int .u16)) []), vl3 []]), (2, .var [.loc 3 0 (([l3] : List (List Int)).length), .loc 4 0 (([] : List api_Edge).length)]), (3, .lst false none (List.map (eL none (D.int .u16)) ([l3] : List (List Int)))), (4, .lst false (some 3) (List.map eapi_Edge ([] : List api_Edge)))], 5⟩) (Norm.nilcell 2 1 false (some 3) rfl rfl (show 2 ≠ 4 by decide)) (nr [0, 1, 2, 3, 4])) ?_
  refine NWp.block ?_
  refine loop_whR (fun (qq : ((List (List Int)) × (List api_Edge) × Int)) => ⟨tab [(1, vp2 a0), (2, .ptr 0 0 0), (4, .ptr 1 0 0), (6, .ptr 2 0 0), (7, vi qq.2.2)], stab [(0, .var [.d (eL none (eL none (D.int .u16)) []), vl3 []]), (1, .var [.d (eL none (eL none (D.int .u16)) []), vl3 []]), (2, .var [.loc 3 0 qq.1.length, .loc 4 0 qq.2.1.length]), (3, .lst false none (List.map (eL none (D.int .u16)) qq.1)), (4, .lst false (some 3) (List.map eapi_Edge qq.2.1))], 5⟩) 0 (fun (qq : ((List (List Int)) × (List api_Edge) × Int)) => ⟨tab [(2, .ptr 0 0 0), (4, .ptr 1 0 0), (6, .ptr 2 0 0)], stab [(0, .var [.d (eL none (eL none (D.int .u16)) []), vl3 []]), (1, .var [.d (eL none (eL none (D.int .u16)) []), vl3 []]), (2, .var [.loc 3 0 qq.1.length, .loc 4 0 qq.2.1.length]), (3, .lst false none (List.map (eL none (D.int .u16)) qq.1)), (4, .lst false (some 3) (List.map eapi_Edge qq.2.1))], 5⟩) (r := r) hl ?_ ?_ ?_
  ·
   rintro ⟨l4, l5, i6⟩ xr7 h
   show NWp _ _ _ _ _ ⟨tab [(1, vp2 a0), (2, .ptr 0 0 0), (4, .ptr 1 0 0), (6, .ptr 2 0 0), (7, vi i6)], stab [(0, .var [.d (eL none (eL none (D.int .u16)) []), vl3 []]), (1, .var [.d (eL none (eL none (D.int .u16)) []), vl3 []]), (2, .var [.loc 3 0 l4.length, .loc 4 0 l5.length]), (3, .lst false none (List.map (eL none (D.int .u16)) l4)), (4, .lst false (some 3) (List.map eapi_Edge l5))], 5⟩
   refine NWp.seq ?_
   refine NWp.opsJ ⟨tab [(1, vp2 a0), (2, .ptr 0 0 0), (4, .ptr 1 0 0), (6, .ptr 2 0 0), (7, vi i6), (28, vb (decide (i6 < (l4.length : Int))))], stab [(0, .var [.d (eL none (eL none (D.int .u16)) []), vl3 []]), (1, .var [.d (eL none (eL none (D.int .u16)) []), vl3 []]), (2, .var [.loc 3 0 l4.length, .loc 4 0 l5.length]), (3, .lst false none (List.map (eL none (D.int .u16)) l4)), (4, .lst false (some 3) (List.map eapi_Edge l5))], 5⟩ ?_ ?_
   ·
    iterate 5 refine q1 _ ?_
    exact nR [0, 1, 2, 3, 4]
   by_cases hc8 : decide (i6 < (l4.length : Int)) = true
   ·
    replace h := iteT hc8 h
    refine NWp.condT (t := decide (i6 < (l4.length : Int))) rfl hc8 ?_
    refine NWp.skip ?_
    refine NWp.seq ?_
    refine NWp.block ?_
    refine NWp.opsJ ⟨tab [(1, vp2 a0), (2, .ptr 0 0 0), (4, .ptr 1 0 0), (6, .ptr 2 0 0), (7, vi i6), (8, vi 0)], stab [(0, .var [.d (eL none (eL none (D.int .u16)) []), vl3 []]), (1, .var [.d (eL none (eL none (D.int .u16)) []), vl3 []]), (2, .var [.loc 3 0 l4.length, .loc 4 0 l5.length]), (3, .lst false none (List.map (eL none (D.int .u16)) l4)), (4, .lst false (some 3) (List.map eapi_Edge l5))], 5⟩ ?_ ?_
    ·
     refine q1 _ ?_
     exact nR [0, 1, 2, 3, 4]
    obtain ⟨q37, hl, h⟩ := bindE h
    refine NWp.block ?_
    refine loop_forR (cntU (a0.Rules.length : Int)) (fun (i11 : Int) (qq : ((List (List Int)) × (List api_Edge))) => ⟨tab [(1, vp2 a0), (2, .ptr 0 0 0), (4, .ptr 1 0 0), (6, .ptr 2 0 0), (7, vi i6), (8, vi i11)], stab [(0, .var [.d (eL none (eL none (D.int .u16)) []), vl3 []]), (1, .var [.d (eL none (eL none (D.int .u16)) []), vl3 []]), (2, .var [.loc 3 0 qq.1.length, .loc 4 0 qq.2.length]), (3, .lst false none (List.map (eL none (D.int .u16)) qq.1)), (4, .lst false (some 3) (List.map eapi_Edge qq.2))], 5⟩) 2 (fun (qq : ((List (List Int)) × (List api_Edge))) => ⟨tab [(1, vp2 a0), (2, .ptr 0 0 0), (4, .ptr 1 0 0), (6, .ptr 2 0 0), (7, vi i6)], stab [(0, .var [.d (eL none (eL none (D.int .u16)) []), vl3 []]), (1, .var [.d (eL none (eL none (D.int .u16)) []), vl3 []]), (2, .var [.loc 3 0 qq.1.length, .loc 4 0 qq.2.length]), (3, .lst false none (List.map (eL none (D.int .u16)) qq.1)), (4, .lst false (some 3) (List.map eapi_Edge qq.2))], 5⟩) Low low_step (r := xr7) hl (by unfold Low; omega) ?_ ?_ ?_ ?_
    ·
     rintro i11 ⟨l9, l10⟩ xr16 hinv14 hgo13 h
     show NWp _ _ _ _ _ ⟨tab [(1, vp2 a0), (2, .ptr 0 0 0), (4, .ptr 1 0 0), (6, .ptr 2 0 0), (7, vi i6), (8, vi i11)], stab [(0, .var [.d (eL none (eL none (D.int .u16)) []), vl3 []]), (1, .var [.d (eL none (eL none (D.int .u16)) []), vl3 []]), (2, .var [.loc 3 0 l9.length, .loc 4 0 l10.length]), (3, .lst false none (List.map (eL none (D.int .u16)) l9)), (4, .lst false (some 3) (List.map eapi_Edge l10))], 5⟩
     have hc15 : decide (i11 < (a0.Rules.length : Int)) = true := decide_eq_true hgo13
     refine NWp.seq ?_
     refine NWp.opsJ ⟨tab [(1, vp2 a0), (2, .ptr 0 0 0), (4, .ptr 1 0 0), (6, .ptr 2 0 0), (7, vi i6), (8, vi i11), (34, vi (a0.Rules.length : Int)), (35, vb (decide (i11 < (a0.Rules.length : Int))))], stab [(0, .var [.d (eL none (eL none (D.int .u16)) []), vl3 []]), (1, .var [.d (eL none (eL none (D.int .u16)) []), vl3 []]), (2, .var [.loc 3 0 l9.length, .loc 4 0 l10.length]), (3, .lst false none (List.map (eL none (D.int .u16)) l9)), (4, .lst false (some 3) (List.map eapi_Edge l10))], 5⟩ ?_ ?_
     ·
      iterate 3 refine q1 _ ?_
      refine step (v := vi (a0.Rules.length : Int)) (st_len (xs := a0.Rules) (e := eapi_Rule) rfl) ?_
      refine q1 _ ?_
      exact nR [0, 1, 2, 3, 4]
     refine NWp.rng 34 rfl fun hB12 => ?_
     refine NWp.condT (t := decide (i11 < (a0.Rules.length : Int))) rfl hc15 ?_
     refine NWp.skip ?_
     obtain ⟨q34, hv, h⟩ := bindE h
     refine NWp.seqS (fun (qq : ((List (List Int)) × (List api_Edge))) => ⟨tab [(1, vp2 a0), (2, .ptr 0 0 0), (4, .ptr 1 0 0), (6, .ptr 2 0 0), (7, vi i6), (8, vi i11)], stab [(0, .var [.d (eL none (eL none (D.int .u16)) []), vl3 []]), (1, .var [.d (eL none (eL none (D.int .u16)) []), vl3 []]), (2, .var [.loc 3 0 qq.1.length, .loc 4 0 qq.2.length]), (3, .lst false none (List.map (eL none (D.int .u16)) qq.1)), (4, .lst false (some 3) (List.map eapi_Edge qq.2))], 5⟩) (xv := q34) (r := xr16) ?_ ?_ ?_
     ·
      replace h := hv
      refine NWp.block ?_
      refine NWp.seq ?_
      obtain ⟨x17, hx17, h⟩ := bindE h
      obtain ⟨x18, hx18, h⟩ := bindE h
      obtain ⟨r19, hr19, h⟩ := bindE h
      refine NWp.opsJ ⟨tab [(1, vp2 a0), (2, .ptr 0 0 0), (4, .ptr 1 0 0), (6, .ptr 2 0 0), (7, vi i6), (8, vi i11), (49, vb (!r19))], stab [(0, .var [.d (eL none (eL none (D.int .u16)) []), vl3 []]), (1, .var [.d (eL none (eL none (D.int .u16)) []), vl3 []]), (2, .var [.loc 3 0 l9.length, .loc 4 0 l10.length]), (3, .lst false none (List.map (eL none (D.int .u16)) l9)), (4, .lst false (some 3) (List.map eapi_Edge l10))], 5⟩ ?_ ?_
      ·
       iterate 3 refine q1 _ ?_
       refine step (v := vp4 x17) (st_iaddr (xs := a0.Rules) (e := eapi_Rule) hx17 rfl rfl) ?_
       iterate 4 refine q1 _ ?_
       refine step (v := .ptr 3 i6.toNat 0) (st_iaddrL (xs := l9) (e := (eL none (D.int .u16))) hx18 rfl rfl rfl rfl) ?_
       refine step (v := vl4 x18) (st_loadL (xs := l9) (e := (eL none (D.int .u16))) hx18 rfl rfl rfl) ?_
       refine stepC (r := .bool r19) (ArgsOk.dt (ArgsOk.dt ArgsOk.nil')) (c_ref11_Goes hr19) ?_
       refine q1 _ ?_
       exact nR [0, 1, 2, 3, 4]
      by_cases hc20 : (!r19) = true
      ·
       replace h := iteT hc20 h
       refine NWp.condT (t := (!r19)) rfl hc20 ?_
       have hh := Option.some.inj h
       subst hh
       refine NWp.norm (s0 := ⟨tab [(1, vp2 a0), (2, .ptr 0 0 0), (4, .ptr 1 0 0), (6, .ptr 2 0 0), (7, vi i6), (8, vi i11)], stab [(0, .var [.d (eL none (eL none (D.int .u16)) []), vl3 []]), (1, .var [.d (eL none (eL none (D.int .u16)) []), vl3 []]), (2, .var [.loc 3 0 l9.length, .loc 4 0 l10.length]), (3, .lst false none (List.map (eL none (D.int .u16)) l9)), (4, .lst false (some 3) (List.map eapi_Edge l10))], 5⟩) (nr [0, 1, 2, 3, 4]) ?_
       refine NWp.exit ?_
       exact And.intro rfl rfl
      ·
       replace h := iteF hc20 h
       refine NWp.condF (t := (!r19)) rfl hc20 ?_
       refine NWp.skip ?_
       obtain ⟨r21, hr21, h⟩ := bindE h
       refine NWp.opsJ ⟨tab [(1, vp2 a0), (2, .ptr 0 0 0), (4, .ptr 1 0 0), (6, .ptr 2 0 0), (7, vi i6), (8, vi i11), (9, vl4 r21)], stab [(0, .var [.d (eL none (eL none (D.int .u16)) []), vl3 []]), (1, .var [.d (eL none (eL none (D.int .u16)) []), vl3 []]), (2, .var [.loc 3 0 l9.length, .loc 4 0 l10.length]), (3, .lst false none (List.map (eL none (D.int .u16)) l9)), (4, .lst false (some 3) (List.map eapi_Edge l10))], 5⟩ ?_ ?_
       ·
        iterate 3 refine q1 _ ?_
        refine step (v := vp4 x17) (st_iaddr (xs := a0.Rules) (e := eapi_Rule) hx17 rfl rfl) ?_
        iterate 4 refine q1 _ ?_
        refine step (v := .ptr 3 i6.toNat 0) (st_iaddrL (xs := l9) (e := (eL none (D.int .u16))) hx18 rfl rfl rfl rfl) ?_
        refine step (v := vl4 x18) (st_loadL (xs := l9) (e := (eL none (D.int .u16))) hx18 rfl rfl rfl) ?_
        refine stepC (r := eL none (D.int .u16) r21) (ArgsOk.dt (ArgsOk.dt ArgsOk.nil')) (c_ref11_After hr21) ?_
        refine q1 _ ?_
        exact nR [0, 1, 2, 3, 4]
       refine NWp.seq ?_
       obtain ⟨r22, hr22, h⟩ := bindE h
       refine NWp.opsJ ⟨tab [(1, vp2 a0), (2, .ptr 0 0 0), (4, .ptr 1 0 0), (6, .ptr 2 0 0), (7, vi i6), (8, vi i11), (9, vl4 r21), (67, vb r22)], stab [(0, .var [.d (eL none (eL none (D.int .u16)) []), vl3 []]), (1, .var [.d (eL none (eL none (D.int .u16)) []), vl3 []]), (2, .var [.loc 3 0 l9.length, .loc 4 0 l10.length]), (3, .lst false none (List.map (eL none (D.int .u16)) l9)), (4, .lst false (some 3) (List.map eapi_Edge l10))], 5⟩ ?_ ?_
       ·
        iterate 4 refine q1 _ ?_
        refine step (v := .ptr 3 i6.toNat 0) (st_iaddrL (xs := l9) (e := (eL none (D.int .u16))) hx18 rfl rfl rfl rfl) ?_
        refine step (v := vl4 x18) (st_loadL (xs := l9) (e := (eL none (D.int .u16))) hx18 rfl rfl rfl) ?_
        refine stepC (r := .bool r22) (ArgsOk.dt (ArgsOk.dt ArgsOk.nil')) (c_ref11_Same hr22) ?_
        exact nR [0, 1, 2, 3, 4]
       by_cases hc23 : r22 = true
       ·
        replace h := iteT hc23 h
        refine NWp.condT (t := r22) rfl hc23 ?_
        have hh := Option.some.inj h
        subst hh
        refine NWp.norm (s0 := ⟨tab [(1, vp2 a0), (2, .ptr 0 0 0), (4, .ptr 1 0 0), (6, .ptr 2 0 0), (7, vi i6), (8, vi i11)], stab [(0, .var [.d (eL none (eL none (D.int .u16)) []), vl3 []]), (1, .var [.d (eL none (eL none (D.int .u16)) []), vl3 []]), (2, .var [.loc 3 0 l9.length, .loc 4 0 l10.length]), (3, .lst false none (List.map (eL none (D.int .u16)) l9)), (4, .lst false (some 3) (List.map eapi_Edge l10))], 5⟩) (nr [0, 1, 2, 3, 4]) ?_
        refine NWp.exit ?_
        exact And.intro rfl rfl
       ·
        replace h := iteF hc23 h
        refine NWp.condF (t := r22) rfl hc23 ?_
        refine NWp.skip ?_
        obtain ⟨r24, hr24, h⟩ := bindE h
        refine NWp.opsJ ⟨tab [(1, vp2 a0), (2, .ptr 0 0 0), (4, .ptr 1 0 0), (6, .ptr 2 0 0), (7, vi i6), (8, vi i11), (9, vl4 r21), (10, vi r24)], stab [(0, .var [.d (eL none (eL none (D.int .u16)) []), vl3 []]), (1, .var [.d (eL none (eL none (D.int .u16)) []), vl3 []]), (2, .var [.loc 3 0 l9.length, .loc 4 0 l10.length]), (3, .lst false none (List.map (eL none (D.int .u16)) l9)), (4, .lst false (some 3) (List.map eapi_Edge l10))], 5⟩ ?_ ?_
        ·
         iterate 3 refine q1 _ ?_
         refine stepC (r := .int .i64 r24) (ArgsOk.lcm (xs := l9) (e := (eL none (D.int .u16))) rfl rfl (ArgsOk.dt ArgsOk.nil')) (c_ref11_Find hr24) ?_
         refine q1 _ ?_
         exact nR [0, 1, 2, 3, 4]
        obtain ⟨q29, hv, h⟩ := bindE h
        obtain ⟨l27, y28⟩ := q29
        refine NWp.seqN ⟨tab [(1, vp2 a0), (2, .ptr 0 0 0), (4, .ptr 1 0 0), (6, .ptr 2 0 0), (7, vi i6), (8, vi i11), (10, vi y28)], stab [(0, .var [.d (eL none (eL none (D.int .u16)) []), vl3 []]), (1, .var [.d (eL none (eL none (D.int .u16)) []), vl3 []]), (2, .var [.loc 3 0 l27.length, .loc 4 0 l10.length]), (3, .lst false none (List.map (eL none (D.int .u16)) l27)), (4, .lst false (some 3) (List.map eapi_Edge l10))], 5⟩ ?_ ?_
        ·
         replace h := hv
         refine NWp.opsJ ⟨tab [(1, vp2 a0), (2, .ptr 0 0 0), (4, .ptr 1 0 0), (6, .ptr 2 0 0), (7, vi i6), (8, vi i11), (9, vl4 r21), (10, vi r24), (73, vb (decide (r24 < 0)))], stab [(0, .var [.d (eL none (eL none (D.int .u16)) []), vl3 []]), (1, .var [.d (eL none (eL none (D.int .u16)) []), vl3 []]), (2, .var [.loc 3 0 l9.length, .loc 4 0 l10.length]), (3, .lst false none (List.map (eL none (D.int .u16)) l9)), (4, .lst false (some 3) (List.map eapi_Edge l10))], 5⟩ ?_ ?_
         ·
          iterate 2 refine q1 _ ?_
          exact nR [0, 1, 2, 3, 4]
         by_cases hc25 : decide (r24 < 0) = true
         ·
          replace h := iteT hc25 h
          refine NWp.condT (t := decide (r24 < 0)) rfl hc25 ?_
          refine NWp.opsJ ⟨tab [(1, vp2 a0), (2, .ptr 0 0 0), (4, .ptr 1 0 0), (6, .ptr 2 0 0), (7, vi i6), (8, vi i11), (9, vl4 r21), (10, vi (l9.length : Int))], stab [(0, .var [.d (eL none (eL none (D.int .u16)) []), vl3 []]), (1, .var [.d (eL none (eL none (D.int .u16)) []), vl3 []]), (2, .var [.loc 3 0 l9.length, .loc 4 0 l10.length]), (3, .lst false none (List.map (eL none (D.int .u16)) l9)), (4, .lst false (some 3) (List.map eapi_Edge l10))], 5⟩ ?_ ?_
          ·
           iterate 4 refine q1 _ ?_
           exact nR [0, 1, 2, 3, 4]
          obtain ⟨l26, hl26, h⟩ := bindE h
          have hh := Option.some.inj h
          obtain ⟨he0, ht0⟩ := Prod.mk.inj hh
          subst he0
          subst ht0
          refine NWp.opsE ⟨tab [(1, vp2 a0), (2, .ptr 0 0 0), (4, .ptr 1 0 0), (6, .ptr 2 0 0), (7, vi i6), (8, vi i11), (10, vi (l9.length : Int))], stab [(0, .var [.d (eL none (eL none (D.int .u16)) []), vl3 []]), (1, .var [.d (eL none (eL none (D.int .u16)) []), vl3 []]), (2, .var [.loc 3 0 l26.length, .loc 4 0 l10.length]), (3, .lst false none (List.map (eL none (D.int .u16)) l26)), (4, .lst false (some 3) (List.map eapi_Edge l10))], 5⟩ ?_ ?_
          ·
           iterate 4 refine q1 _ ?_
           refine step (v := .loc 5 0 l26.length) (σ' := (upd (upd (stab [(0, .var [.d (eL none (eL none (D.int .u16)) []), vl3 []]), (1, .var [.d (eL none (eL none (D.int .u16)) []), vl3 []]), (2, .var [.loc 3 0 l9.length, .loc 4 0 l10.length]), (3, .lst false none (List.map (eL none (D.int .u16)) l9)), (4, .lst false (some 3) (List.map eapi_Edge l10))]) 3 none) 5 (some (.lst false none (List.map (eL none (D.int .u16)) l26))))) (n' := 6) (st_app (xs := l9) (ys := ([r21] : List (List Int))) (e := (eL none (D.int .u16))) hl26 rfl rfl rfl (src_v (xs := ([r21] : List (List Int))) (e := (eL none (D.int .u16))) rfl)) ?_
           refine q1 _ ?_
           refine step (v := V.undef) (σ' := (upd (upd (upd (stab [(0, .var [.d (eL none (eL none (D.int .u16)) []), vl3 []]), (1, .var [.d (eL none (eL none (D.int .u16)) []), vl3 []]), (2, .var [.loc 3 0 l9.length, .loc 4 0 l10.length]), (3, .lst false none (List.map (eL none (D.int .u16)) l9)), (4, .lst false (some 3) (List.map eapi_Edge l10))]) 3 none) 5 (some (.lst false none (List.map (eL none (D.int .u16)) l26)))) 2 (some (.var [.loc 5 0 l26.length, .loc 4 0 l10.length])))) (n' := 6) rfl ?_
           exact nR [0, 1, 2, 5, 4]
          exact And.intro rfl rfl
         ·
          replace h := iteF hc25 h
          refine NWp.condF (t := decide (r24 < 0)) rfl hc25 ?_
          have hh := Option.some.inj h
          obtain ⟨he0, ht0⟩ := Prod.mk.inj hh
          subst he0
          subst ht0
          refine NWp.norm (s0 := ⟨tab [(1, vp2 a0), (2, .ptr 0 0 0), (4, .ptr 1 0 0), (6, .ptr 2 0 0), (7, vi i6), (8, vi i11), (10, vi r24)], stab [(0, .var [.d (eL none (eL none (D.int .u16)) []), vl3 []]), (1, .var [.d (eL none (eL none (D.int .u16)) []), vl3 []]), (2, .var [.loc 3 0 l9.length, .loc 4 0 l10.length]), (3, .lst false none (List.map (eL none (D.int .u16)) l9)), (4, .lst false (some 3) (List.map eapi_Edge l10))], 5⟩) (nr [0, 1, 2, 3, 4]) ?_
          refine NWp.skip ?_
          exact And.intro rfl rfl
        refine NWp.seq ?_
        refine NWp.opsJ ⟨tab [(1, vp2 a0), (2, .ptr 0 0 0), (4, .ptr 1 0 0), (6, .ptr 2 0 0), (7, vi i6), (8, vi i11), (10, vi y28), (86, vb (decide ((l27.length : Int) > 128)))], stab [(0, .var [.d (eL none (eL none (D.int .u16)) []), vl3 []]), (1, .var [.d (eL none (eL none (D.int .u16)) []), vl3 []]), (2, .var [.loc 3 0 l27.length, .loc 4 0 l10.length]), (3, .lst false none (List.map (eL none (D.int .u16)) l27)), (4, .lst false (some 3) (List.map eapi_Edge l10))], 5⟩ ?_ ?_
        ·
         iterate 4 refine q1 _ ?_
         exact nR [0, 1, 2, 3, 4]
        by_cases hc30 : decide ((l27.length : Int) > 128) = true
        ·
         replace h := iteT hc30 h
         refine NWp.condT (t := decide ((l27.length : Int) > 128)) rfl hc30 ?_
         refine NWp.opsJ ⟨tab [(2, .ptr 0 0 0), (3, vi 21)], stab [(0, .var [.d (eL none (eL none (D.int .u16)) []), vl3 []])], 1⟩ ?_ ?_
         ·
          refine step (v := vs4 (api_Space.mk [] [])) (st_ldV (ds := [eL none (eL none (D.int .u16)) [], eL (some 3) eapi_Edge []]) rfl rfl (show 2 ≤ 2 by decide) rfl) ?_
          refine step (v := V.undef) (σ' := (upd (stab [(0, .var [.d (eL none (eL none (D.int .u16)) []), vl3 []]), (1, .var [.d (eL none (eL none (D.int .u16)) []), vl3 []]), (2, .var [.loc 3 0 l27.length, .loc 4 0 l10.length]), (3, .lst false none (List.map (eL none (D.int .u16)) l27)), (4, .lst false (some 3) (List.map eapi_Edge l10))]) 0 (some (.var [.d (eL none (eL none (D.int .u16)) []), vl3 []])))) (n' := 5) rfl ?_
          refine q1 _ ?_
          exact nR [0]
         obtain ⟨r31, kr31, hr⟩ := mapE (o := some (Br.ret (Br.ret ((api_Space.mk [] []), 21)))) (g := Sum.inr) h
         subst hr
         have h := kr31
         obtain ⟨r32, kr32, hr⟩ := mapE (o := some (Br.ret ((api_Space.mk [] []), 21))) (g := Br.ret) h
         subst hr
         have h := kr32
         obtain ⟨r33, kr33, hr⟩ := mapE (o := some ((api_Space.mk [] []), 21)) (g := Br.ret) h
         subst hr
         have h := kr33
         have hh := Option.some.inj h
         subst hh
         refine NWp.ret ?_
         refine And.intro (fun hn => nomatch hn) ?_
         intro hq
         have hq := hq.symm
         subst hq
         refine And.intro (fun hn => nomatch hn) ?_
         intro hq
         have hq := hq.symm
         subst hq
         refine And.intro (fun hn => nomatch hn) ?_
         intro hq
         have hq := hq.symm
         subst hq
         show FQ _ _ _ _
         exact FQ.mkT (.inr rfl) (res_cell (ds := [eL none (eL none (D.int .u16)) [], eL (some 3) eapi_Edge []]) rfl rfl (show 2 ≤ 2 by decide) rfl (res_t (v := vi 21) rfl rfl)) (RV.d (RV.d trivial))
        ·
         replace h := iteF hc30 h
         refine NWp.condF (t := decide ((l27.length : Int) > 128)) rfl hc30 ?_
         refine NWp.skip ?_
         obtain ⟨l31, hl31, h⟩ := bindE h
         have hh := Option.some.inj h
         subst hh
         refine NWp.opsE ⟨tab [(1, vp2 a0), (2, .ptr 0 0 0), (4, .ptr 1 0 0), (6, .ptr 2 0 0), (7, vi i6), (8, vi i11)], stab [(0, .var [.d (eL none (eL none (D.int .u16)) []), vl3 []]), (1, .var [.d (eL none (eL none (D.int .u16)) []), vl3 []]), (2, .var [.loc 3 0 l27.length, .loc 4 0 l31.length]), (3, .lst false none (List.map (eL none (D.int .u16)) l27)), (4, .lst false (some 3) (List.map eapi_Edge l31))], 5⟩ ?_ ?_
         ·
          iterate 5 refine q1 _ ?_
          refine step (v := .d (eapi_Edge (api_Edge.mk i6 i11 y28))) (st_build (ds := [.int .i64 i6, .int .i64 i11, .int .i64 y28]) rfl) ?_
          refine q1 _ ?_
          refine step (v := .loc 5 0 l31.length) (σ' := (upd (upd (stab [(0, .var [.d (eL none (eL none (D.int .u16)) []), vl3 []]), (1, .var [.d (eL none (eL none (D.int .u16)) []), vl3 []]), (2, .var [.loc 3 0 l27.length, .loc 4 0 l10.length]), (3, .lst false none (List.map (eL none (D.int .u16)) l27)), (4, .lst false (some 3) (List.map eapi_Edge l10))]) 4 none) 5 (some (.lst false (some 3) (List.map eapi_Edge l31))))) (n' := 6) (st_app (xs := l10) (ys := ([(api_Edge.mk i6 i11 y28)] : List api_Edge)) (e := eapi_Edge) hl31 rfl rfl rfl (src_v (xs := ([(api_Edge.mk i6 i11 y28)] : List api_Edge)) (e := eapi_Edge) rfl)) ?_
          refine q1 _ ?_
          refine step (v := V.undef) (σ' := (upd (upd (upd (stab [(0, .var [.d (eL none (eL none (D.int .u16)) []), vl3 []]), (1, .var [.d (eL none (eL none (D.int .u16)) []), vl3 []]), (2, .var [.loc 3 0 l27.length, .loc 4 0 l10.length]), (3, .lst false none (List.map (eL none (D.int .u16)) l27)), (4, .lst false (some 3) (List.map eapi_Edge l10))]) 4 none) 5 (some (.lst false (some 3) (List.map eapi_Edge l31)))) 2 (some (.var [.loc 3 0 l27.length, .loc 5 0 l31.length])))) (n' := 6) rfl ?_
          exact nR [0, 1, 2, 3, 5]
         exact And.intro rfl rfl
     ·
      intro r' hq
      subst hq
      exact Option.some.inj h
     rintro ⟨l32, l33⟩ rfl
     show NWp _ _ _ _ _ ⟨tab [(1, vp2 a0), (2, .ptr 0 0 0), (4, .ptr 1 0 0), (6, .ptr 2 0 0), (7, vi i6), (8, vi i11)], stab [(0, .var [.d (eL none (eL none (D.int .u16)) []), vl3 []]), (1, .var [.d (eL none (eL none (D.int .u16)) []), vl3 []]), (2, .var [.loc 3 0 l32.length, .loc 4 0 l33.length]), (3, .lst false none (List.map (eL none (D.int .u16)) l32)), (4, .lst false (some 3) (List.map eapi_Edge l33))], 5⟩
     have hh := Option.some.inj h
     subst hh
     refine NWp.opsE ⟨tab [(1, vp2 a0), (2, .ptr 0 0 0), (4, .ptr 1 0 0), (6, .ptr 2 0 0), (7, vi i6), (8, vi (i11 + 1))], stab [(0, .var [.d (eL none (eL none (D.int .u16)) []), vl3 []]), (1, .var [.d (eL none (eL none (D.int .u16)) []), vl3 []]), (2, .var [.loc 3 0 l32.length, .loc 4 0 l33.length]), (3, .lst false none (List.map (eL none (D.int .u16)) l32)), (4, .lst false (some 3) (List.map eapi_Edge l33))], 5⟩ ?_ ?_
     ·
      refine q1 _ ?_
      refine step (v := vi (i11 + 1)) (st_inc (inc_ok hinv14 hgo13 hB12) rfl rfl) ?_
      refine q1 _ ?_
      exact nR [0, 1, 2, 3, 4]
     exact And.intro rfl rfl
    ·
     rintro i11 ⟨l9, l10⟩ hinv14 hgo13
     show NWp _ _ _ _ _ ⟨tab [(1, vp2 a0), (2, .ptr 0 0 0), (4, .ptr 1 0 0), (6, .ptr 2 0 0), (7, vi i6), (8, vi i11)], stab [(0, .var [.d (eL none (eL none (D.int .u16)) []), vl3 []]), (1, .var [.d (eL none (eL none (D.int .u16)) []), vl3 []]), (2, .var [.loc 3 0 l9.length, .loc 4 0 l10.length]), (3, .lst false none (List.map (eL none (D.int .u16)) l9)), (4, .lst false (some 3) (List.map eapi_Edge l10))], 5⟩
     have hc15 : ¬ (decide (i11 < (a0.Rules.length : Int)) = true) := fun hq => hgo13 (of_decide_eq_true hq)
     refine NWp.seq ?_
     refine NWp.opsJ ⟨tab [(1, vp2 a0), (2, .ptr 0 0 0), (4, .ptr 1 0 0), (6, .ptr 2 0 0), (7, vi i6), (8, vi i11), (35, vb (decide (i11 < (a0.Rules.length : Int))))], stab [(0, .var [.d (eL none (eL none (D.int .u16)) []), vl3 []]), (1, .var [.d (eL none (eL none (D.int .u16)) []), vl3 []]), (2, .var [.loc 3 0 l9.length, .loc 4 0 l10.length]), (3, .lst false none (List.map (eL none (D.int .u16)) l9)), (4, .lst false (some 3) (List.map eapi_Edge l10))], 5⟩ ?_ ?_
     ·
      iterate 3 refine q1 _ ?_
      refine step (v := vi (a0.Rules.length : Int)) (st_len (xs := a0.Rules) (e := eapi_Rule) rfl) ?_
      refine q1 _ ?_
      exact nR [0, 1, 2, 3, 4]
     refine NWp.condF (t := decide (i11 < (a0.Rules.length : Int))) rfl hc15 ?_
     refine NWp.norm (s0 := ⟨tab [(1, vp2 a0), (2, .ptr 0 0 0), (4, .ptr 1 0 0), (6, .ptr 2 0 0), (7, vi i6)], stab [(0, .var [.d (eL none (eL none (D.int .u16)) []), vl3 []]), (1, .var [.d (eL none (eL none (D.int .u16)) []), vl3 []]), (2, .var [.loc 3 0 l9.length, .loc 4 0 l10.length]), (3, .lst false none (List.map (eL none (D.int .u16)) l9)), (4, .lst false (some 3) (List.map eapi_Edge l10))], 5⟩) (nr [0, 1, 2, 3, 4]) ?_
     refine NWp.exit ?_
     exact And.intro rfl rfl
    ·
     intro r' hq
     subst hq
     exact Option.some.inj h
    rintro ⟨z35, z36⟩ rfl
    have hh := Option.some.inj h
    subst hh
    refine NWp.opsE ⟨tab [(1, vp2 a0), (2, .ptr 0 0 0), (4, .ptr 1 0 0), (6, .ptr 2 0 0), (7, vi (IntKind.i64.wrap (i6 + 1)))], stab [(0, .var [.d (eL none (eL none (D.int .u16)) []), vl3 []]), (1, .var [.d (eL none (eL none (D.int .u16)) []), vl3 []]), (2, .var [.loc 3 0 z35.length, .loc 4 0 z36.length]), (3, .lst false none (List.map (eL none (D.int .u16)) z35)), (4, .lst false (some 3) (List.map eapi_Edge z36))], 5⟩ ?_ ?_
    ·
     iterate 3 refine q1 _ ?_
     exact nR [0, 1, 2, 3, 4]
    exact And.intro rfl rfl
   ·
    replace h := iteF hc8 h
    refine NWp.condF (t := decide (i6 < (l4.length : Int))) rfl hc8 ?_
    have hh := Option.some.inj h
    subst hh
    refine NWp.norm (s0 := ⟨tab [(2, .ptr 0 0 0), (4, .ptr 1 0 0), (6, .ptr 2 0 0)], stab [(0, .var [.d (eL none (eL none (D.int .u16)) []), vl3 []]), (1, .var [.d (eL none (eL none (D.int .u16)) []), vl3 []]), (2, .var [.loc 3 0 l4.length, .loc 4 0 l5.length]), (3, .lst false none (List.map (eL none (D.int .u16)) l4)), (4, .lst false (some 3) (List.map eapi_Edge l5))], 5⟩) (nr [0, 1, 2, 3, 4]) ?_
    refine NWp.exit ?_
    exact And.intro rfl rfl
  ·
   intro r' hq
   subst hq
   exact Option.some.inj h
  rintro ⟨z38, z39, z40⟩ rfl
  refine NWp.seq ?_
  obtain ⟨r41, hr41, h⟩ := bindE h
  refine NWp.opsJ ⟨tab [(2, .ptr 0 0 0), (4, .ptr 1 0 0), (6, .ptr 2 0 0), (98, vb r41)], stab [(0, .var [.d (eL none (eL none (D.int .u16)) []), vl3 []]), (1, .var [.d (eL none (eL none (D.int .u16)) []), vl3 []]), (2, .var [.loc 3 0 z38.length, .loc 4 0 z39.length]), (3, .lst false none (List.map (eL none (D.int .u16)) z38)), (4, .lst false (some 3) (List.map eapi_Edge z39))], 5⟩ ?_ ?_
  ·
   refine q1 _ ?_
   refine stepC (r := .bool r41) (ArgsOk.vw (va_agg (optC (vc_l (xs := z38) (e := (eL none (D.int .u16))) rfl rfl) (optC (vc_l (xs := z39) (e := eapi_Edge) rfl rfl) optN))) (Sub.aggs (by exact ⟨.refl _, .refl _, trivial⟩)) ArgsOk.nil') (c_ref11_round hr41) ?_
   exact nR [0, 1, 2, 3, 4]
  by_cases hc42 : r41 = true
  ·
   replace h := iteT hc42 h
   refine NWp.condT (t := r41) rfl hc42 ?_
   refine NWp.opsJ ⟨tab [(2, .ptr 0 0 0), (3, vi 20)], stab [(0, .var [.d (eL none (eL none (D.int .u16)) []), vl3 []])], 1⟩ ?_ ?_
   ·
    refine step (v := vs4 (api_Space.mk [] [])) (st_ldV (ds := [eL none (eL none (D.int .u16)) [], eL (some 3) eapi_Edge []]) rfl rfl (show 2 ≤ 2 by decide) rfl) ?_
    refine step (v := V.undef) (σ' := (upd (stab [(0, .var [.d (eL none (eL none (D.int .u16)) []), vl3 []]), (1, .var [.d (eL none (eL none (D.int .u16)) []), vl3 []]), (2, .var [.loc 3 0 z38.length, .loc 4 0 z39.length]), (3, .lst false none (List.map (eL none (D.int .u16)) z38)), (4, .lst false (some 3) (List.map eapi_Edge z39))]) 0 (some (.var [.d (eL none (eL none (D.int .u16)) []), vl3 []])))) (n' := 5) rfl ?_
    refine q1 _ ?_
    exact nR [0]
   have hh := Option.some.inj h
   subst hh
   refine NWp.ret ?_
   show FQ _ _ _ _
   exact FQ.mkT (.inr rfl) (res_cell (ds := [eL none (eL none (D.int .u16)) [], eL (some 3) eapi_Edge []]) rfl rfl (show 2 ≤ 2 by decide) rfl (res_t (v := vi 20) rfl rfl)) (RV.d (RV.d trivial))
  ·
   replace h := iteF hc42 h
   refine NWp.condF (t := r41) rfl hc42 ?_
   refine NWp.skip ?_
   refine NWp.opsJ ⟨tab [(2, .ptr 0 0 0), (3, vi 0)], stab [(0, .var [.loc 1 0 z38.length, .loc 2 0 z39.length]), (1, .lst false none (List.map (eL none (D.int .u16)) z38)), (2, .lst false (some 3) (List.map eapi_Edge z39))], 3⟩ ?_ ?_
   ·
    refine q1 _ ?_
    refine step (v := V.undef) (σ' := (upd (stab [(0, .var [.d (eL none (eL none (D.int .u16)) []), vl3 []]), (1, .var [.d (eL none (eL none (D.int .u16)) []), vl3 []]), (2, .var [.loc 3 0 z38.length, .loc 4 0 z39.length]), (3, .lst false none (List.map (eL none (D.int .u16)) z38)), (4, .lst false (some 3) (List.map eapi_Edge z39))]) 0 (some (.var [.loc 3 0 z38.length, .loc 4 0 z39.length])))) (n' := 5) rfl ?_
    refine q1 _ ?_
    exact nR [0, 3, 4]
   have hh := Option.some.inj h
   subst hh
   refine NWp.ret ?_
   show FQ _ _ _ _
   exact FQ.mkT (.inr rfl) rfl (RV.agg (RV0.loc (xs := z38) (e := (eL none (D.int .u16))) rfl rfl (RV0.loc (xs := z39) (e := eapi_Edge) rfl rfl trivial)) (RV.d trivial))

theorem c_ref02_pow {a0 : Int} {r : Int} (h : ref02_pow a0 = some r) : PCall Tryd.prog 32 [.int .i64 a0] (.int .u64 r) := by
 refine PCall.introN ok32 (show 1 ≤ 13 by decide) ?_
 refine NWp.norm (s0 := ⟨tab [(0, vi a0)], stab [], 0⟩) (nr []) ?_
 refine NWp.opsJ ⟨tab [(0, vi a0)], stab [], 0⟩ ?_ ?_
 ·
  refine q1 _ ?_
  exact nR []
 refine NWp.opsJ ⟨tab [(0, vi a0), (3, .d (.int .u64 1))], stab [], 0⟩ ?_ ?_
 ·
  refine q1 _ ?_
  exact nR []
 refine NWp.seq ?_
 refine NWp.opsJ ⟨tab [(0, vi a0), (3, .d (.int .u64 1)), (4, vi 0)], stab [], 0⟩ ?_ ?_
 ·
  refine q1 _ ?_
  exact nR []
 obtain ⟨z8, hl, h⟩ := bindE h
 refine NWp.block ?_
 refine loop_forO (cntU a0) (fun (i2 : Int) (qq : Int) => ⟨tab [(0, vi a0), (3, .d (.int .u64 qq)), (4, vi i2)], stab [], 0⟩) 0 (fun (qq : Int) => ⟨tab [(3, .d (.int .u64 qq))], stab [], 0⟩) Low low_step hl (by unfold Low; omega) ?_ ?_ ?_
 ·
  rintro i2 i1 xr7 hinv5 hgo4 h
  show NWp _ _ _ _ _ ⟨tab [(0, vi a0), (3, .d (.int .u64 i1)), (4, vi i2)], stab [], 0⟩
  have hc6 : decide (i2 < a0) = true := decide_eq_true hgo4
  refine NWp.seq ?_
  refine NWp.opsJ ⟨tab [(0, vi a0), (3, .d (.int .u64 i1)), (4, vi i2), (6, vi a0), (7, vb (decide (i2 < a0)))], stab [], 0⟩ ?_ ?_
  ·
   iterate 3 refine q1 _ ?_
   exact nR []
  refine NWp.rng 6 rfl fun hB3 => ?_
  refine NWp.condT (t := decide (i2 < a0)) rfl hc6 ?_
  refine NWp.skip ?_
  refine NWp.seq ?_
  refine NWp.block ?_
  refine NWp.opsE ⟨tab [(0, vi a0), (3, .d (.int .u64 (IntKind.u64.wrap (2 * i1)))), (4, vi i2)], stab [], 0⟩ ?_ ?_
  ·
   iterate 3 refine q1 _ ?_
   exact nR []
  have hh := Option.some.inj h
  subst hh
  refine NWp.opsE ⟨tab [(0, vi a0), (3, .d (.int .u64 (IntKind.u64.wrap (2 * i1)))), (4, vi (i2 + 1))], stab [], 0⟩ ?_ ?_
  ·
   refine q1 _ ?_
   refine step (v := vi (i2 + 1)) (st_inc (inc_ok hinv5 hgo4 hB3) rfl rfl) ?_
   refine q1 _ ?_
   exact nR []
  exact And.intro rfl rfl
 ·
  rintro i2 i1 hinv5 hgo4
  show NWp _ _ _ _ _ ⟨tab [(0, vi a0), (3, .d (.int .u64 i1)), (4, vi i2)], stab [], 0⟩
  have hc6 : ¬ (decide (i2 < a0) = true) := fun hq => hgo4 (of_decide_eq_true hq)
  refine NWp.seq ?_
  refine NWp.opsJ ⟨tab [(0, vi a0), (3, .d (.int .u64 i1)), (4, vi i2), (7, vb (decide (i2 < a0)))], stab [], 0⟩ ?_ ?_
  ·
   iterate 3 refine q1 _ ?_
   exact nR []
  refine NWp.condF (t := decide (i2 < a0)) rfl hc6 ?_
  refine NWp.norm (s0 := ⟨tab [(3, .d (.int .u64 i1))], stab [], 0⟩) (nr []) ?_
  refine NWp.exit ?_
  exact And.intro rfl rfl
 refine NWp.opsJ ⟨tab [(2, .d (.int .u64 z8))], stab [], 0⟩ ?_ ?_
 ·
  iterate 2 refine q1 _ ?_
  exact nR []
 have hh := Option.some.inj h
 subst hh
 refine NWp.ret ?_
 show FQ _ _ _ _
 exact FQ.mk1 (.inr rfl) (res_t (v := .d (.int .u64 z8)) rfl rfl) (RV.d trivial)

theorem c_ref02_Has {a0 : Int} {a1 : Int} {r : Bool} (h : ref02_Has a0 a1 = some r) : PCall Tryd.prog 21 [.int .u64 a0, .int .i64 a1] (.bool r) := by
 refine PCall.introN ok21 (show 2 ≤ 19 by decide) ?_
 refine NWp.norm (s0 := ⟨tab [(0, .d (.int .u64 a0)), (1, vi a1)], stab [], 0⟩) (nr []) ?_
 refine NWp.opsJ ⟨tab [(0, .d (.int .u64 a0)), (1, vi a1)], stab [], 0⟩ ?_ ?_
 ·
  refine q1 _ ?_
  exact nR []
 obtain ⟨y5, hv, h⟩ := bindE h
 refine NWp.opsJ ⟨tab [(4, vb y5)], stab [], 0⟩ ?_ ?_
 ·
  iterate 3 refine q1 _ ?_
  by_cases hg1 : decide (a1 ≥ 0) = true
  ·
   replace hv := iteT hg1 hv
   refine qG _ hg1 ?_
   refine q1 _ ?_
   refine qG _ hg1 ?_
   refine q1 _ ?_
   refine step (v := vb (decide (a1 < 64))) (st_pickT (b := decide (a1 ≥ 0)) rfl hg1 rfl) ?_
   refine q1 _ ?_
   by_cases hg2 : decide (a1 < 64) = true
   ·
    replace hv := iteT hg2 hv
    obtain ⟨r3, hr3, hv⟩ := bindE hv
    obtain ⟨q4, hq4, hv⟩ := bindE hv
    refine qG _ hg2 ?_
    refine q1 _ ?_
    refine qG _ hg2 ?_
    refine q1 _ ?_
    refine qG _ hg2 ?_
    refine stepC (r := .int .u64 r3) (ArgsOk.dt ArgsOk.nil') (c_ref02_pow hr3) ?_
    refine qG _ hg2 ?_
    refine step (v := .d (.int .u64 q4)) (st_quo hq4 rfl rfl) ?_
    refine qG _ hg2 ?_
    refine q1 _ ?_
    refine qG _ hg2 ?_
    refine q1 _ ?_
    refine step (v := vb ((q4.tmod 2) == 1)) (st_pickT (b := decide (a1 < 64)) rfl hg2 rfl) ?_
    refine q1 _ ?_
    have hh := Option.some.inj hv
    subst hh
    exact nR []
   ·
    replace hv := iteF hg2 hv
    iterate 6 refine qX _ hg2 ?_
    refine step (v := vb false) (st_pickF (b := decide (a1 < 64)) rfl hg2 rfl) ?_
    refine q1 _ ?_
    have hh := Option.some.inj hv
    subst hh
    exact nR []
  ·
   replace hv := iteF hg1 hv
   iterate 2 refine qX _ hg1 ?_
   refine step (v := vb false) (st_pickF (b := decide (a1 ≥ 0)) rfl hg1 rfl) ?_
   refine q1 _ ?_
   iterate 6 refine qX false (by decide) ?_
   refine step (v := vb false) (st_pickF (b := false) rfl (by decide) rfl) ?_
   refine q1 _ ?_
   have hh := Option.some.inj hv
   subst hh
   exact nR []
 have hh := Option.some.inj h
 subst hh
 refine NWp.ret ?_
 show FQ _ _ _ _
 exact FQ.mk1 (.inr rfl) (res_t (v := vb y5) rfl rfl) (RV.d trivial)

theorem c_ref12_times {a0 : api_Nes} {a1 : Int} {a2 : Int} {r : Int} (h : ref12_times a0 a1 a2 = some r) : PCall Tryd.prog 39 [eapi_Nes a0, .int .u64 a1, .int .i64 a2] (.int .i64 r) := by
 refine PCall.introN ok39 (show 3 ≤ 32 by decide) ?_
 refine NWp.norm (s0 := ⟨tab [(0, vs1 a0), (1, .d (.int .u64 a1)), (2, vi a2)], stab [], 0⟩) (nr []) ?_
 refine NWp.opsJ ⟨tab [(1, .d (.int .u64 a1)), (2, vi a2), (3, vp0 a0)], stab [], 0⟩ ?_ ?_
 ·
  iterate 2 refine q1 _ ?_
  exact nR []
 refine NWp.opsJ ⟨tab [(1, .d (.int .u64 a1)), (2, vi a2), (3, vp0 a0), (7, vi 0)], stab [], 0⟩ ?_ ?_
 ·
  refine q1 _ ?_
  exact nR []
 refine NWp.seq ?_
 refine NWp.opsJ ⟨tab [(1, .d (.int .u64 a1)), (2, vi a2), (3, vp0 a0), (7, vi 0), (8, vi 0)], stab [], 0⟩ ?_ ?_
 ·
  refine q1 _ ?_
  exact nR []
 obtain ⟨z16, hl, h⟩ := bindE h
 refine NWp.block ?_
 refine loop_forO (cntU (a0.Events.length : Int)) (fun (i2 : Int) (qq : Int) => ⟨tab [(1, .d (.int .u64 a1)), (2, vi a2), (3, vp0 a0), (7, vi qq), (8, vi i2)], stab [], 0⟩) 0 (fun (qq : Int) => ⟨tab [(7, vi qq)], stab [], 0⟩) Low low_step hl (by unfold Low; omega) ?_ ?_ ?_
 ·
  rintro i2 i1 xr7 hinv5 hgo4 h
  show NWp _ _ _ _ _ ⟨tab [(1, .d (.int .u64 a1)), (2, vi a2), (3, vp0 a0), (7, vi i1), (8, vi i2)], stab [], 0⟩
  have hc6 : decide (i2 < (a0.Events.length : Int)) = true := decide_eq_true hgo4
  refine NWp.seq ?_
  refine NWp.opsJ ⟨tab [(1, .d (.int .u64 a1)), (2, vi a2), (3, vp0 a0), (7, vi i1), (8, vi i2), (12, vi (a0.Events.length : Int)), (13, vb (decide (i2 < (a0.Events.length : Int))))], stab [], 0⟩ ?_ ?_
  ·
   iterate 3 refine q1 _ ?_
   refine step (v := vi (a0.Events.length : Int)) (st_len (xs := a0.Events) (e := eapi_Event) rfl) ?_
   refine q1 _ ?_
   exact nR []
  refine NWp.rng 12 rfl fun hB3 => ?_
  refine NWp.condT (t := decide (i2 < (a0.Events.length : Int))) rfl hc6 ?_
  refine NWp.skip ?_
  obtain ⟨y14, hv, h⟩ := bindE h
  refine NWp.seqN ⟨tab [(1, .d (.int .u64 a1)), (2, vi a2), (3, vp0 a0), (7, vi y14), (8, vi i2)], stab [], 0⟩ ?_ ?_
  ·
   replace h := hv
   refine NWp.block ?_
   obtain ⟨x8, hx8, h⟩ := bindE h
   obtain ⟨y11, hv, h⟩ := bindE h
   refine NWp.opsJ ⟨tab [(1, .d (.int .u64 a1)), (2, vi a2), (3, vp0 a0), (7, vi i1), (8, vi i2), (28, vb y11)], stab [], 0⟩ ?_ ?_
   ·
    iterate 3 refine q1 _ ?_
    refine step (v := vp5 x8) (st_iaddr (xs := a0.Events) (e := eapi_Event) hx8 rfl rfl) ?_
    iterate 5 refine q1 _ ?_
    by_cases hg9 : (x8.Rule == a2) = true
    ·
     replace hv := iteT hg9 hv
     obtain ⟨r10, hr10, hv⟩ := bindE hv
     refine qG _ hg9 ?_
     refine q1 _ ?_
     refine qG _ hg9 ?_
     refine q1 _ ?_
     refine qG _ hg9 ?_
     refine stepC (r := .bool r10) (ArgsOk.dt (ArgsOk.dt ArgsOk.nil')) (c_ref02_Has hr10) ?_
     refine step (v := vb r10) (st_pickT (b := (x8.Rule == a2)) rfl hg9 rfl) ?_
     have hh := Option.some.inj hv
     subst hh
     exact nR []
    ·
     replace hv := iteF hg9 hv
     iterate 3 refine qX _ hg9 ?_
     refine step (v := vb false) (st_pickF (b := (x8.Rule == a2)) rfl hg9 rfl) ?_
     have hh := Option.some.inj hv
     subst hh
     exact nR []
   by_cases hc13 : y11 = true
   ·
    replace h := iteT hc13 h
    refine NWp.condT (t := y11) rfl hc13 ?_
    have hh := Option.some.inj h
    subst hh
    refine NWp.opsE ⟨tab [(1, .d (.int .u64 a1)), (2, vi a2), (3, vp0 a0), (7, vi (IntKind.i64.wrap (i1 + 1))), (8, vi i2)], stab [], 0⟩ ?_ ?_
    ·
     iterate 3 refine q1 _ ?_
     exact nR []
    exact And.intro rfl rfl
   ·
    replace h := iteF hc13 h
    refine NWp.condF (t := y11) rfl hc13 ?_
    have hh := Option.some.inj h
    subst hh
    refine NWp.norm (s0 := ⟨tab [(1, .d (.int .u64 a1)), (2, vi a2), (3, vp0 a0), (7, vi i1), (8, vi i2)], stab [], 0⟩) (nr []) ?_
    refine NWp.skip ?_
    exact And.intro rfl rfl
  have hh := Option.some.inj h
  subst hh
  refine NWp.opsE ⟨tab [(1, .d (.int .u64 a1)), (2, vi a2), (3, vp0 a0), (7, vi y14), (8, vi (i2 + 1))], stab [], 0⟩ ?_ ?_
  ·
   refine q1 _ ?_
   refine step (v := vi (i2 + 1)) (st_inc (inc_ok hinv5 hgo4 hB3) rfl rfl) ?_
   refine q1 _ ?_
   exact nR []
  exact And.intro rfl rfl
 ·
  rintro i2 i1 hinv5 hgo4
  show NWp _ _ _ _ _ ⟨tab [(1, .d (.int .u64 a1)), (2, vi a2), (3, vp0 a0), (7, vi i1), (8, vi i2)], stab [], 0⟩
  have hc6 : ¬ (decide (i2 < (a0.Events.length : Int)) = true) := fun hq => hgo4 (of_decide_eq_true hq)
  refine NWp.seq ?_
  refine NWp.opsJ ⟨tab [(1, .d (.int .u64 a1)), (2, vi a2), (3, vp0 a0), (7, vi i1), (8, vi i2), (13, vb (decide (i2 < (a0.Events.length : Int))))], stab [], 0⟩ ?_ ?_
  ·
   iterate 3 refine q1 _ ?_
   refine step (v := vi (a0.Events.length : Int)) (st_len (xs := a0.Events) (e := eapi_Event) rfl) ?_
   refine q1 _ ?_
   exact nR []
  refine NWp.condF (t := decide (i2 < (a0.Events.length : Int))) rfl hc6 ?_
  refine NWp.norm (s0 := ⟨tab [(7, vi i1)], stab [], 0⟩) (nr []) ?_
  refine NWp.exit ?_
  exact And.intro rfl rfl
 refine NWp.opsJ ⟨tab [(6, vi z16)], stab [], 0⟩ ?_ ?_
 ·
  iterate 2 refine q1 _ ?_
  exact nR []
 have hh := Option.some.inj h
 subst hh
 refine NWp.ret ?_
 show FQ _ _ _ _
 exact FQ.mk1 (.inr rfl) (res_t (v := vi z16) rfl rfl) (RV.d trivial)

theorem c_ref12_find {a0 : (List api_Event)} {a1 : api_Event} {r : Int} (h : ref12_find a0 a1 = some r) : PCall Tryd.prog 40 [eL (some 2) eapi_Event a0, eapi_Event a1] (.int .i64 r) := by
 refine PCall.introN ok40 (show 2 ≤ 19 by decide) ?_
 refine NWp.norm (s0 := ⟨tab [(0, vl1 a0), (1, .d (eapi_Event a1))], stab [], 0⟩) (nr []) ?_
 refine NWp.opsJ ⟨tab [(0, vl1 a0), (3, vp5 a1)], stab [], 0⟩ ?_ ?_
 ·
  iterate 2 refine q1 _ ?_
  exact nR []
 refine NWp.seq ?_
 refine NWp.opsJ ⟨tab [(0, vl1 a0), (3, vp5 a1), (5, vi 0)], stab [], 0⟩ ?_ ?_
 ·
  refine q1 _ ?_
  exact nR []
 obtain ⟨q9, hl, h⟩ := bindE h
 refine NWp.block ?_
 refine loop_forR (cntU (a0.length : Int)) (fun (i1 : Int) (qq : Unit) => ⟨tab [(0, vl1 a0), (3, vp5 a1), (5, vi i1)], stab [], 0⟩) 0 (fun (qq : Unit) => ⟨tab [], stab [], 0⟩) Low low_step (r := r) hl (by unfold Low; omega) ?_ ?_ ?_ ?_
 ·
  rintro i1 ⟨⟩ xr6 hinv4 hgo3 h
  show NWp _ _ _ _ _ ⟨tab [(0, vl1 a0), (3, vp5 a1), (5, vi i1)], stab [], 0⟩
  have hc5 : decide (i1 < (a0.length : Int)) = true := decide_eq_true hgo3
  refine NWp.seq ?_
  refine NWp.opsJ ⟨tab [(0, vl1 a0), (3, vp5 a1), (5, vi i1), (8, vi (a0.length : Int)), (9, vb (decide (i1 < (a0.length : Int))))], stab [], 0⟩ ?_ ?_
  ·
   iterate 2 refine q1 _ ?_
   refine step (v := vi (a0.length : Int)) (st_len (xs := a0) (e := eapi_Event) rfl) ?_
   refine q1 _ ?_
   exact nR []
  refine NWp.rng 8 rfl fun hB2 => ?_
  refine NWp.condT (t := decide (i1 < (a0.length : Int))) rfl hc5 ?_
  refine NWp.skip ?_
  refine NWp.seq ?_
  refine NWp.block ?_
  obtain ⟨x7, hx7, h⟩ := bindE h
  refine NWp.opsJ ⟨tab [(0, vl1 a0), (3, vp5 a1), (5, vi i1), (17, vb (x7 == a1))], stab [], 0⟩ ?_ ?_
  ·
   iterate 2 refine q1 _ ?_
   refine step (v := vp5 x7) (st_iaddr (xs := a0) (e := eapi_Event) hx7 rfl rfl) ?_
   iterate 2 refine q1 _ ?_
   refine step (v := vb (x7 == a1)) (st_eqS (neg := false) rfl rfl (eqS_api_Event x7 a1)) ?_
   exact nR []
  by_cases hc8 : (x7 == a1) = true
  ·
   replace h := iteT hc8 h
   refine NWp.condT (t := (x7 == a1)) rfl hc8 ?_
   refine NWp.opsJ ⟨tab [(4, vi i1)], stab [], 0⟩ ?_ ?_
   ·
    iterate 2 refine q1 _ ?_
    exact nR []
   obtain ⟨r9, kr9, hr⟩ := mapE (o := some i1) (g := Br.ret) h
   subst hr
   have h := kr9
   have hh := Option.some.inj h
   subst hh
   refine NWp.ret ?_
   refine And.intro (fun hn => nomatch hn) ?_
   intro hq
   have hq := hq.symm
   subst hq
   show FQ _ _ _ _
   exact FQ.mk1 (.inr rfl) (res_t (v := vi i1) rfl rfl) (RV.d trivial)
  ·
   replace h := iteF hc8 h
   refine NWp.condF (t := (x7 == a1)) rfl hc8 ?_
   refine NWp.skip ?_
   have hh := Option.some.inj h
   subst hh
   refine NWp.opsE ⟨tab [(0, vl1 a0), (3, vp5 a1), (5, vi (i1 + 1))], stab [], 0⟩ ?_ ?_
   ·
    refine q1 _ ?_
    refine step (v := vi (i1 + 1)) (st_inc (inc_ok hinv4 hgo3 hB2) rfl rfl) ?_
    refine q1 _ ?_
    exact nR []
   exact And.intro rfl rfl
 ·
  rintro i1 ⟨⟩ hinv4 hgo3
  show NWp _ _ _ _ _ ⟨tab [(0, vl1 a0), (3, vp5 a1), (5, vi i1)], stab [], 0⟩
  have hc5 : ¬ (decide (i1 < (a0.length : Int)) = true) := fun hq => hgo3 (of_decide_eq_true hq)
  refine NWp.seq ?_
  refine NWp.opsJ ⟨tab [(0, vl1 a0), (3, vp5 a1), (5, vi i1), (9, vb (decide (i1 < (a0.length : Int))))], stab [], 0⟩ ?_ ?_
  ·
   iterate 2 refine q1 _ ?_
   refine step (v := vi (a0.length : Int)) (st_len (xs := a0) (e := eapi_Event) rfl) ?_
   refine q1 _ ?_
   exact nR []
  refine NWp.condF (t := decide (i1 < (a0.length : Int))) rfl hc5 ?_
  refine NWp.norm (s0 := ⟨tab [], stab [], 0⟩) (nr []) ?_
  refine NWp.exit ?_
  exact And.intro rfl rfl
 ·
  intro r' hq
  subst hq
  exact Option.some.inj h
 rintro ⟨⟩ rfl
 refine NWp.opsJ ⟨tab [(4, vi (-1))], stab [], 0⟩ ?_ ?_
 ·
  refine q1 _ ?_
  exact nR []
 have hh := Option.some.inj h
 subst hh
 refine NWp.ret ?_
 show FQ _ _ _ _
 exact FQ.mk1 (.inr rfl) (res_t (v := vi (-1)) rfl rfl) (RV.d trivial)


end Go.AM
