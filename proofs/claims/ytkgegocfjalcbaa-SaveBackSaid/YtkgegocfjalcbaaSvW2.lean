import Derived.Test.YtkgegocfjalcbaaSvW1
/-  What they are in the program: walks. -/
set_option linter.unusedVariables false
set_option linter.unusedSimpArgs false
namespace Go.AM
open Go Go.RowKit Go.Proofs

attribute [local irreducible] RunOps RunOpsL

theorem c_ref32_Encode {a0 : (List api_Deed)} {r : (ByteArray × Int)} (h : ref32_Encode a0 = some r) : PCall Try.prog 22 [eL (some 12) eapi_Deed a0] (.tup [.str r.1, .int .i64 r.2]) := by
  refine PCall.introN ok22 (show 1 ≤ 79 by decide) ?_
  refine NWp.norm (s0 := ⟨tab [(0, .d (eL (some 12) eapi_Deed a0))], stab [], 0⟩) (Norm.mk [] (by decide) (by decide) (by decide) ⟨.d _, trivial⟩ trivial) ?_
  refine NWp.opsJ ⟨tab [(0, .d (eL (some 12) eapi_Deed a0))], stab [], 0⟩ ?_ ?_
  · refine step (v := .d (.str (⟨#[]⟩ : ByteArray))) rfl ?_
    refine step (v := .d (.int .i64 0)) rfl ?_
    exact RunOps.nil' (Norm.mk [] (by decide) (by decide) (by decide) ⟨.d _, trivial⟩ trivial)
  refine NWp.seq ?_
  refine NWp.opsJ ⟨tab [(0, .d (eL (some 12) eapi_Deed a0)), (4, .d (.int .i64 0))], stab [], 0⟩ ?_ ?_
  · refine step (v := .d (.int .i64 0)) rfl ?_
    exact RunOps.nil' (Norm.mk [] (by decide) (by decide) (by decide) ⟨.d _, .d _, trivial⟩ trivial)
  obtain ⟨q31, hl, h⟩ := bindE h
  refine NWp.block ?_
  refine loop_forR (cntU (a0.length : Int)) (fun (i1 : Int) (qq : Unit) => ⟨tab [(0, .d (eL (some 12) eapi_Deed a0)), (4, .d (.int .i64 i1))], stab [], 0⟩) 0 (fun (qq : Unit) => ⟨tab [(0, .d (eL (some 12) eapi_Deed a0))], stab [], 0⟩) Low low_step (r := r) hl (by unfold Low; omega) ?_ ?_ ?_ ?_
  · rintro i1 ⟨⟩ xr6 hinv4 hgo3 h
    show NWp _ _ _ _ _ ⟨tab [(0, .d (eL (some 12) eapi_Deed a0)), (4, .d (.int .i64 i1))], stab [], 0⟩
    have hc5 : decide (i1 < (a0.length : Int)) = true := decide_eq_true hgo3
    refine NWp.seq ?_
    refine NWp.opsJ ⟨tab [(0, .d (eL (some 12) eapi_Deed a0)), (4, .d (.int .i64 i1)), (9, .d (.int .i64 (a0.length : Int))), (10, .d (.bool (decide (i1 < (a0.length : Int)))))], stab [], 0⟩ ?_ ?_
    · refine step (v := .d (.int .i64 i1)) rfl ?_
      refine step (v := .d (eL (some 12) eapi_Deed a0)) rfl ?_
      refine step (v := .d (.int .i64 (a0.length : Int))) (st_len (xs := a0) (e := eapi_Deed) rfl) ?_
      refine step (v := .d (.bool (decide (i1 < (a0.length : Int))))) rfl ?_
      exact RunOps.nil' (Norm.mk [] (by decide) (by decide) (by decide) ⟨.d _, .d _, .d _, .d _, trivial⟩ trivial)
    refine NWp.rng 9 rfl fun hB2 => ?_
    refine NWp.condT (t := decide (i1 < (a0.length : Int))) rfl hc5 ?_
    refine NWp.skip ?_
    refine NWp.seq ?_
    refine NWp.block ?_
    obtain ⟨x7, hx7, h⟩ := bindE h
    refine NWp.opsJ ⟨tab [(0, .d (eL (some 12) eapi_Deed a0)), (4, .d (.int .i64 i1)), (51, .d (.bool ((decide (x7.What < 0)) || ((decide (x7.What > 6)) || ((decide (x7.N < 0)) || ((decide (x7.N > 99999)) || (decide ((x7.Raw.size : Int) > 1000))))))))], stab [], 0⟩ ?_ ?_
    · refine step (v := .d (eL (some 12) eapi_Deed a0)) rfl ?_
      refine step (v := .d (.int .i64 i1)) rfl ?_
      refine step (v := .d (.cptr (some 12) (eapi_Deed x7) 0)) (st_iaddr (xs := a0) (e := eapi_Deed) hx7 rfl rfl) ?_
      refine step (v := .d (.cptr (some 12) (eapi_Deed x7) 0)) rfl ?_
      refine step (v := .d (.int .i64 x7.What)) rfl ?_
      refine step (v := .d (.bool (decide (x7.What < 0)))) rfl ?_
      refine step (v := .d (.bool (decide (x7.What < 0)))) rfl ?_
      by_cases hg8 : decide (x7.What < 0) = true
      · refine stepX (c := decide (x7.What < 0)) rfl (by rw [hg8]; decide) ?_
        refine stepX (c := decide (x7.What < 0)) rfl (by rw [hg8]; decide) ?_
        refine stepX (c := decide (x7.What < 0)) rfl (by rw [hg8]; decide) ?_
        refine stepX (c := decide (x7.What < 0)) rfl (by rw [hg8]; decide) ?_
        refine stepX (c := decide (x7.What < 0)) rfl (by rw [hg8]; decide) ?_
        refine stepX (c := decide (x7.What < 0)) rfl (by rw [hg8]; decide) ?_
        refine step (v := .d (.bool true)) (st_pickT (b := decide (x7.What < 0)) rfl hg8 rfl) ?_
        refine step (v := .d (.bool true)) rfl ?_
        refine stepX (c := true) rfl (by decide) ?_
        refine stepX (c := true) rfl (by decide) ?_
        refine stepX (c := true) rfl (by decide) ?_
        refine stepX (c := true) rfl (by decide) ?_
        refine stepX (c := true) rfl (by decide) ?_
        refine stepX (c := true) rfl (by decide) ?_
        refine step (v := .d (.bool true)) (st_pickT (b := true) rfl rfl rfl) ?_
        refine step (v := .d (.bool true)) rfl ?_
        refine stepX (c := true) rfl (by decide) ?_
        refine stepX (c := true) rfl (by decide) ?_
        refine stepX (c := true) rfl (by decide) ?_
        refine stepX (c := true) rfl (by decide) ?_
        refine stepX (c := true) rfl (by decide) ?_
        refine stepX (c := true) rfl (by decide) ?_
        refine step (v := .d (.bool true)) (st_pickT (b := true) rfl rfl rfl) ?_
        refine step (v := .d (.bool true)) rfl ?_
        refine stepX (c := true) rfl (by decide) ?_
        refine stepX (c := true) rfl (by decide) ?_
        refine stepX (c := true) rfl (by decide) ?_
        refine stepX (c := true) rfl (by decide) ?_
        refine stepX (c := true) rfl (by decide) ?_
        refine stepX (c := true) rfl (by decide) ?_
        refine stepX (c := true) rfl (by decide) ?_
        refine step (v := .d (.bool true)) (st_pickT (b := true) rfl rfl rfl) ?_
        exact RunOps.nil' (Norm.mk [] (by decide) (by decide) (by decide) ⟨.d _, .d _, .eq (by simp [hg8]), trivial⟩ trivial)
      · refine stepG (c := decide (x7.What < 0)) rfl (Bool.eq_false_iff.2 hg8) ?_
        refine step (v := .d (eL (some 12) eapi_Deed a0)) rfl ?_
        refine stepG (c := decide (x7.What < 0)) rfl (Bool.eq_false_iff.2 hg8) ?_
        refine step (v := .d (.int .i64 i1)) rfl ?_
        refine stepG (c := decide (x7.What < 0)) rfl (Bool.eq_false_iff.2 hg8) ?_
        refine step (v := .d (.cptr (some 12) (eapi_Deed x7) 0)) (st_iaddr (xs := a0) (e := eapi_Deed) hx7 rfl rfl) ?_
        refine stepG (c := decide (x7.What < 0)) rfl (Bool.eq_false_iff.2 hg8) ?_
        refine step (v := .d (.cptr (some 12) (eapi_Deed x7) 0)) rfl ?_
        refine stepG (c := decide (x7.What < 0)) rfl (Bool.eq_false_iff.2 hg8) ?_
        refine step (v := .d (.int .i64 x7.What)) rfl ?_
        refine stepG (c := decide (x7.What < 0)) rfl (Bool.eq_false_iff.2 hg8) ?_
        refine step (v := .d (.bool (decide (x7.What > 6)))) rfl ?_
        refine step (v := .d (.bool (decide (x7.What > 6)))) (st_pickF (b := decide (x7.What < 0)) rfl hg8 rfl) ?_
        refine step (v := .d (.bool (decide (x7.What > 6)))) rfl ?_
        by_cases hg9 : decide (x7.What > 6) = true
        · refine stepX (c := decide (x7.What > 6)) rfl (by rw [hg9]; decide) ?_
          refine stepX (c := decide (x7.What > 6)) rfl (by rw [hg9]; decide) ?_
          refine stepX (c := decide (x7.What > 6)) rfl (by rw [hg9]; decide) ?_
          refine stepX (c := decide (x7.What > 6)) rfl (by rw [hg9]; decide) ?_
          refine stepX (c := decide (x7.What > 6)) rfl (by rw [hg9]; decide) ?_
          refine stepX (c := decide (x7.What > 6)) rfl (by rw [hg9]; decide) ?_
          refine step (v := .d (.bool true)) (st_pickT (b := decide (x7.What > 6)) rfl hg9 rfl) ?_
          refine step (v := .d (.bool true)) rfl ?_
          refine stepX (c := true) rfl (by decide) ?_
          refine stepX (c := true) rfl (by decide) ?_
          refine stepX (c := true) rfl (by decide) ?_
          refine stepX (c := true) rfl (by decide) ?_
          refine stepX (c := true) rfl (by decide) ?_
          refine stepX (c := true) rfl (by decide) ?_
          refine step (v := .d (.bool true)) (st_pickT (b := true) rfl rfl rfl) ?_
          refine step (v := .d (.bool true)) rfl ?_
          refine stepX (c := true) rfl (by decide) ?_
          refine stepX (c := true) rfl (by decide) ?_
          refine stepX (c := true) rfl (by decide) ?_
          refine stepX (c := true) rfl (by decide) ?_
          refine stepX (c := true) rfl (by decide) ?_
          refine stepX (c := true) rfl (by decide) ?_
          refine stepX (c := true) rfl (by decide) ?_
          refine step (v := .d (.bool true)) (st_pickT (b := true) rfl rfl rfl) ?_
          exact RunOps.nil' (Norm.mk [] (by decide) (by decide) (by decide) ⟨.d _, .d _, .eq (by simp [hg8, hg9]), trivial⟩ trivial)
        · refine stepG (c := decide (x7.What > 6)) rfl (Bool.eq_false_iff.2 hg9) ?_
          refine step (v := .d (eL (some 12) eapi_Deed a0)) rfl ?_
          refine stepG (c := decide (x7.What > 6)) rfl (Bool.eq_false_iff.2 hg9) ?_
          refine step (v := .d (.int .i64 i1)) rfl ?_
          refine stepG (c := decide (x7.What > 6)) rfl (Bool.eq_false_iff.2 hg9) ?_
          refine step (v := .d (.cptr (some 12) (eapi_Deed x7) 0)) (st_iaddr (xs := a0) (e := eapi_Deed) hx7 rfl rfl) ?_
          refine stepG (c := decide (x7.What > 6)) rfl (Bool.eq_false_iff.2 hg9) ?_
          refine step (v := .d (.cptr (some 12) (eapi_Deed x7) 1)) rfl ?_
          refine stepG (c := decide (x7.What > 6)) rfl (Bool.eq_false_iff.2 hg9) ?_
          refine step (v := .d (.int .i64 x7.N)) rfl ?_
          refine stepG (c := decide (x7.What > 6)) rfl (Bool.eq_false_iff.2 hg9) ?_
          refine step (v := .d (.bool (decide (x7.N < 0)))) rfl ?_
          refine step (v := .d (.bool (decide (x7.N < 0)))) (st_pickF (b := decide (x7.What > 6)) rfl hg9 rfl) ?_
          refine step (v := .d (.bool (decide (x7.N < 0)))) rfl ?_
          by_cases hg10 : decide (x7.N < 0) = true
          · refine stepX (c := decide (x7.N < 0)) rfl (by rw [hg10]; decide) ?_
            refine stepX (c := decide (x7.N < 0)) rfl (by rw [hg10]; decide) ?_
            refine stepX (c := decide (x7.N < 0)) rfl (by rw [hg10]; decide) ?_
            refine stepX (c := decide (x7.N < 0)) rfl (by rw [hg10]; decide) ?_
            refine stepX (c := decide (x7.N < 0)) rfl (by rw [hg10]; decide) ?_
            refine stepX (c := decide (x7.N < 0)) rfl (by rw [hg10]; decide) ?_
            refine step (v := .d (.bool true)) (st_pickT (b := decide (x7.N < 0)) rfl hg10 rfl) ?_
            refine step (v := .d (.bool true)) rfl ?_
            refine stepX (c := true) rfl (by decide) ?_
            refine stepX (c := true) rfl (by decide) ?_
            refine stepX (c := true) rfl (by decide) ?_
            refine stepX (c := true) rfl (by decide) ?_
            refine stepX (c := true) rfl (by decide) ?_
            refine stepX (c := true) rfl (by decide) ?_
            refine stepX (c := true) rfl (by decide) ?_
            refine step (v := .d (.bool true)) (st_pickT (b := true) rfl rfl rfl) ?_
            exact RunOps.nil' (Norm.mk [] (by decide) (by decide) (by decide) ⟨.d _, .d _, .eq (by simp [hg8, hg9, hg10]), trivial⟩ trivial)
          · refine stepG (c := decide (x7.N < 0)) rfl (Bool.eq_false_iff.2 hg10) ?_
            refine step (v := .d (eL (some 12) eapi_Deed a0)) rfl ?_
            refine stepG (c := decide (x7.N < 0)) rfl (Bool.eq_false_iff.2 hg10) ?_
            refine step (v := .d (.int .i64 i1)) rfl ?_
            refine stepG (c := decide (x7.N < 0)) rfl (Bool.eq_false_iff.2 hg10) ?_
            refine step (v := .d (.cptr (some 12) (eapi_Deed x7) 0)) (st_iaddr (xs := a0) (e := eapi_Deed) hx7 rfl rfl) ?_
            refine stepG (c := decide (x7.N < 0)) rfl (Bool.eq_false_iff.2 hg10) ?_
            refine step (v := .d (.cptr (some 12) (eapi_Deed x7) 1)) rfl ?_
            refine stepG (c := decide (x7.N < 0)) rfl (Bool.eq_false_iff.2 hg10) ?_
            refine step (v := .d (.int .i64 x7.N)) rfl ?_
            refine stepG (c := decide (x7.N < 0)) rfl (Bool.eq_false_iff.2 hg10) ?_
            refine step (v := .d (.bool (decide (x7.N > 99999)))) rfl ?_
            refine step (v := .d (.bool (decide (x7.N > 99999)))) (st_pickF (b := decide (x7.N < 0)) rfl hg10 rfl) ?_
            refine step (v := .d (.bool (decide (x7.N > 99999)))) rfl ?_
            by_cases hg11 : decide (x7.N > 99999) = true
            · refine stepX (c := decide (x7.N > 99999)) rfl (by rw [hg11]; decide) ?_
              refine stepX (c := decide (x7.N > 99999)) rfl (by rw [hg11]; decide) ?_
              refine stepX (c := decide (x7.N > 99999)) rfl (by rw [hg11]; decide) ?_
              refine stepX (c := decide (x7.N > 99999)) rfl (by rw [hg11]; decide) ?_
              refine stepX (c := decide (x7.N > 99999)) rfl (by rw [hg11]; decide) ?_
              refine stepX (c := decide (x7.N > 99999)) rfl (by rw [hg11]; decide) ?_
              refine stepX (c := decide (x7.N > 99999)) rfl (by rw [hg11]; decide) ?_
              refine step (v := .d (.bool true)) (st_pickT (b := decide (x7.N > 99999)) rfl hg11 rfl) ?_
              exact RunOps.nil' (Norm.mk [] (by decide) (by decide) (by decide) ⟨.d _, .d _, .eq (by simp [hg8, hg9, hg10, hg11]), trivial⟩ trivial)
            · refine stepG (c := decide (x7.N > 99999)) rfl (Bool.eq_false_iff.2 hg11) ?_
              refine step (v := .d (eL (some 12) eapi_Deed a0)) rfl ?_
              refine stepG (c := decide (x7.N > 99999)) rfl (Bool.eq_false_iff.2 hg11) ?_
              refine step (v := .d (.int .i64 i1)) rfl ?_
              refine stepG (c := decide (x7.N > 99999)) rfl (Bool.eq_false_iff.2 hg11) ?_
              refine step (v := .d (.cptr (some 12) (eapi_Deed x7) 0)) (st_iaddr (xs := a0) (e := eapi_Deed) hx7 rfl rfl) ?_
              refine stepG (c := decide (x7.N > 99999)) rfl (Bool.eq_false_iff.2 hg11) ?_
              refine step (v := .d (.cptr (some 12) (eapi_Deed x7) 11)) rfl ?_
              refine stepG (c := decide (x7.N > 99999)) rfl (Bool.eq_false_iff.2 hg11) ?_
              refine step (v := .d (.str x7.Raw)) rfl ?_
              refine stepG (c := decide (x7.N > 99999)) rfl (Bool.eq_false_iff.2 hg11) ?_
              refine step (v := .d (.int .i64 (x7.Raw.size : Int))) rfl ?_
              refine stepG (c := decide (x7.N > 99999)) rfl (Bool.eq_false_iff.2 hg11) ?_
              refine step (v := .d (.bool (decide ((x7.Raw.size : Int) > 1000)))) rfl ?_
              refine step (v := .d (.bool (decide ((x7.Raw.size : Int) > 1000)))) (st_pickF (b := decide (x7.N > 99999)) rfl hg11 rfl) ?_
              exact RunOps.nil' (Norm.mk [] (by decide) (by decide) (by decide) ⟨.d _, .d _, .eq (by simp [hg8, hg9, hg10, hg11]), trivial⟩ trivial)
    by_cases hc12 : ((decide (x7.What < 0)) || ((decide (x7.What > 6)) || ((decide (x7.N < 0)) || ((decide (x7.N > 99999)) || (decide ((x7.Raw.size : Int) > 1000)))))) = true
    · replace h := iteT hc12 h
      refine NWp.condT (t := ((decide (x7.What < 0)) || ((decide (x7.What > 6)) || ((decide (x7.N < 0)) || ((decide (x7.N > 99999)) || (decide ((x7.Raw.size : Int) > 1000))))))) rfl hc12 ?_
      refine NWp.opsJ ⟨tab [(2, .d (.str (⟨#[]⟩ : ByteArray))), (3, .d (.int .i64 1))], stab [], 0⟩ ?_ ?_
      · refine step (v := .d (.str (⟨#[]⟩ : ByteArray))) rfl ?_
        refine step (v := .d (.int .i64 1)) rfl ?_
        exact RunOps.nil' (Norm.mk [] (by decide) (by decide) (by decide) ⟨.d _, .d _, trivial⟩ trivial)
      obtain ⟨r13, kr13, hr⟩ := mapE (o := some ((⟨#[]⟩ : ByteArray), 1)) (g := Br.ret) h
      subst hr
      have h := kr13
      have hh := Option.some.inj h
      subst hh
      refine NWp.ret ?_
      refine And.intro (fun hn => nomatch hn) ?_
      intro hq
      have hq := hq.symm
      subst hq
      show FQ _ _ _ _
      exact FQ.mkT (.inr rfl) (res_t (v := .d (.str (⟨#[]⟩ : ByteArray))) rfl (res_t (v := .d (.int .i64 1)) rfl rfl)) (RV.d (RV.d trivial))
    · replace h := iteF hc12 h
      refine NWp.condF (t := ((decide (x7.What < 0)) || ((decide (x7.What > 6)) || ((decide (x7.N < 0)) || ((decide (x7.N > 99999)) || (decide ((x7.Raw.size : Int) > 1000))))))) rfl hc12 ?_
      refine NWp.skip ?_
      have hh := Option.some.inj h
      subst hh
      refine NWp.opsE ⟨tab [(0, .d (eL (some 12) eapi_Deed a0)), (4, .d (.int .i64 (i1 + 1)))], stab [], 0⟩ ?_ ?_
      · refine step (v := .d (.int .i64 i1)) rfl ?_
        refine step (v := .d (.int .i64 (i1 + 1))) (st_inc (inc_ok hinv4 hgo3 hB2) rfl rfl) ?_
        refine step (v := .d (.int .i64 (i1 + 1))) rfl ?_
        exact RunOps.nil' (Norm.mk [] (by decide) (by decide) (by decide) ⟨.d _, .d _, trivial⟩ trivial)
      exact And.intro rfl rfl
  · rintro i1 ⟨⟩ hinv4 hgo3
    show NWp _ _ _ _ _ ⟨tab [(0, .d (eL (some 12) eapi_Deed a0)), (4, .d (.int .i64 i1))], stab [], 0⟩
    have hc5 : ¬ (decide (i1 < (a0.length : Int)) = true) := fun hq => hgo3 (of_decide_eq_true hq)
    refine NWp.seq ?_
    refine NWp.opsJ ⟨tab [(0, .d (eL (some 12) eapi_Deed a0)), (4, .d (.int .i64 i1)), (10, .d (.bool (decide (i1 < (a0.length : Int)))))], stab [], 0⟩ ?_ ?_
    · refine step (v := .d (.int .i64 i1)) rfl ?_
      refine step (v := .d (eL (some 12) eapi_Deed a0)) rfl ?_
      refine step (v := .d (.int .i64 (a0.length : Int))) (st_len (xs := a0) (e := eapi_Deed) rfl) ?_
      refine step (v := .d (.bool (decide (i1 < (a0.length : Int))))) rfl ?_
      exact RunOps.nil' (Norm.mk [] (by decide) (by decide) (by decide) ⟨.d _, .d _, .d _, trivial⟩ trivial)
    refine NWp.condF (t := decide (i1 < (a0.length : Int))) rfl hc5 ?_
    refine NWp.norm (s0 := ⟨tab [(0, .d (eL (some 12) eapi_Deed a0))], stab [], 0⟩) (Norm.mk [] (by decide) (by decide) (by decide) ⟨.d _, trivial⟩ trivial) ?_
    refine NWp.exit ?_
    exact And.intro rfl rfl
  · intro r' hq
    subst hq
    exact Option.some.inj h
  rintro ⟨⟩ rfl
  refine NWp.seq ?_
  refine NWp.opsJ ⟨tab [(0, .d (eL (some 12) eapi_Deed a0)), (54, .d (.bool (decide ((a0.length : Int) > 10000))))], stab [], 0⟩ ?_ ?_
  · refine step (v := .d (eL (some 12) eapi_Deed a0)) rfl ?_
    refine step (v := .d (.int .i64 (a0.length : Int))) (st_len (xs := a0) (e := eapi_Deed) rfl) ?_
    refine step (v := .d (.bool (decide ((a0.length : Int) > 10000)))) rfl ?_
    exact RunOps.nil' (Norm.mk [] (by decide) (by decide) (by decide) ⟨.d _, .d _, trivial⟩ trivial)
  by_cases hc13 : decide ((a0.length : Int) > 10000) = true
  · replace h := iteT hc13 h
    refine NWp.condT (t := decide ((a0.length : Int) > 10000)) rfl hc13 ?_
    refine NWp.opsJ ⟨tab [(2, .d (.str (⟨#[]⟩ : ByteArray))), (3, .d (.int .i64 2))], stab [], 0⟩ ?_ ?_
    · refine step (v := .d (.str (⟨#[]⟩ : ByteArray))) rfl ?_
      refine step (v := .d (.int .i64 2)) rfl ?_
      exact RunOps.nil' (Norm.mk [] (by decide) (by decide) (by decide) ⟨.d _, .d _, trivial⟩ trivial)
    have hh := Option.some.inj h
    subst hh
    refine NWp.ret ?_
    show FQ _ _ _ _
    exact FQ.mkT (.inr rfl) (res_t (v := .d (.str (⟨#[]⟩ : ByteArray))) rfl (res_t (v := .d (.int .i64 2)) rfl rfl)) (RV.d (RV.d trivial))
  · replace h := iteF hc13 h
    refine NWp.condF (t := decide ((a0.length : Int) > 10000)) rfl hc13 ?_
    refine NWp.skip ?_
    obtain ⟨r14, hr14, h⟩ := bindE h
    obtain ⟨l15, hl15, h⟩ := bindE h
    refine NWp.opsJ ⟨tab [(0, .d (eL (some 12) eapi_Deed a0)), (5, .loc 0 0 l15.length)], stab [(0, .lst false none (List.map (D.int .u8) l15))], 1⟩ ?_ ?_
    · refine step (v := .loc 0 0 (([68] : List Int).length)) (σ' := (upd (stab []) 0 (some (.lst false none (List.map (D.int .u8) ([68] : List Int)))))) (n' := 1) rfl ?_
      refine step (v := .d (eL (some 12) eapi_Deed a0)) rfl ?_
      refine step (v := .d (.int .i64 (a0.length : Int))) (st_len (xs := a0) (e := eapi_Deed) rfl) ?_
      refine stepW (v := .loc 1 0 r14.length) (σ' := (upd (upd (stab []) 0 (some (.lst false none (List.map (D.int .u8) ([68] : List Int))))) 1 (some (.lst true none (List.map (D.int .u8) r14))))) (n' := 2) (SCall.lift [] (c_ref32_Number hr14) (show 0 ≤ 1 by decide) (by decide) (show ∀ i ∈ [], i < 1 by decide) (dom_c (show 0 < 1 by decide) dom_n) (VNs.c (.d _) VNs.nil0) SN.nil0) (show 1 ≤ 2 by decide) ?_
      refine step (v := .loc 2 0 l15.length) (σ' := (upd (upd (upd (upd (stab []) 0 (some (.lst false none (List.map (D.int .u8) ([68] : List Int))))) 1 (some (.lst true none (List.map (D.int .u8) r14)))) 0 none) 2 (some (.lst false none (List.map (D.int .u8) l15))))) (n' := 3) (st_app (xs := ([68] : List Int)) (ys := r14) (e := (D.int .u8)) hl15 rfl rfl rfl (src_l (xs := r14) (e := (D.int .u8)) rfl rfl rfl)) ?_
      refine step (v := .loc 2 0 l15.length) rfl ?_
      exact RunOps.nil' (Norm.mk [2] (by decide) (by decide) (by decide) ⟨.d _, .loc 0 _ _ (show 0 < 1 by decide), trivial⟩ ⟨⟨show 0 < 1 by decide, _, rfl, .lst _ _ _⟩, trivial⟩)
    refine NWp.seq ?_
    refine NWp.opsJ ⟨tab [(0, .d (eL (some 12) eapi_Deed a0)), (5, .loc 0 0 l15.length), (6, .d (.int .i64 0))], stab [(0, .lst false none (List.map (D.int .u8) l15))], 1⟩ ?_ ?_
    · refine step (v := .d (.int .i64 0)) rfl ?_
      exact RunOps.nil' (Norm.mk [0] (by decide) (by decide) (by decide) ⟨.d _, .loc 0 _ _ (show 0 < 1 by decide), .d _, trivial⟩ ⟨⟨show 0 < 1 by decide, _, rfl, .lst _ _ _⟩, trivial⟩)
    obtain ⟨z26, hl, h⟩ := bindE h
    refine NWp.block ?_
    refine loop_forO (cntU (a0.length : Int)) (fun (i17 : Int) (qq : (List Int)) => ⟨tab [(0, .d (eL (some 12) eapi_Deed a0)), (5, .loc 0 0 qq.length), (6, .d (.int .i64 i17))], stab [(0, .lst false none (List.map (D.int .u8) qq))], 1⟩) 2 (fun (qq : (List Int)) => ⟨tab [(5, .loc 0 0 qq.length)], stab [(0, .lst false none (List.map (D.int .u8) qq))], 1⟩) Low low_step hl (by unfold Low; omega) ?_ ?_ ?_
    · rintro i17 l16 xr22 hinv20 hgo19 h
      show NWp _ _ _ _ _ ⟨tab [(0, .d (eL (some 12) eapi_Deed a0)), (5, .loc 0 0 l16.length), (6, .d (.int .i64 i17))], stab [(0, .lst false none (List.map (D.int .u8) l16))], 1⟩
      have hc21 : decide (i17 < (a0.length : Int)) = true := decide_eq_true hgo19
      refine NWp.seq ?_
      refine NWp.opsJ ⟨tab [(0, .d (eL (some 12) eapi_Deed a0)), (5, .loc 0 0 l16.length), (6, .d (.int .i64 i17)), (62, .d (.int .i64 (a0.length : Int))), (63, .d (.bool (decide (i17 < (a0.length : Int)))))], stab [(0, .lst false none (List.map (D.int .u8) l16))], 1⟩ ?_ ?_
      · refine step (v := .d (.int .i64 i17)) rfl ?_
        refine step (v := .d (eL (some 12) eapi_Deed a0)) rfl ?_
        refine step (v := .d (.int .i64 (a0.length : Int))) (st_len (xs := a0) (e := eapi_Deed) rfl) ?_
        refine step (v := .d (.bool (decide (i17 < (a0.length : Int))))) rfl ?_
        exact RunOps.nil' (Norm.mk [0] (by decide) (by decide) (by decide) ⟨.d _, .loc 0 _ _ (show 0 < 1 by decide), .d _, .d _, .d _, trivial⟩ ⟨⟨show 0 < 1 by decide, _, rfl, .lst _ _ _⟩, trivial⟩)
      refine NWp.rng 62 rfl fun hB18 => ?_
      refine NWp.condT (t := decide (i17 < (a0.length : Int))) rfl hc21 ?_
      refine NWp.skip ?_
      refine NWp.seq ?_
      refine NWp.block ?_
      obtain ⟨x23, hx23, h⟩ := bindE h
      obtain ⟨r24, hr24, h⟩ := bindE h
      obtain ⟨l25, hl25, h⟩ := bindE h
      refine NWp.opsE ⟨tab [(0, .d (eL (some 12) eapi_Deed a0)), (5, .loc 0 0 l25.length), (6, .d (.int .i64 i17))], stab [(0, .lst false none (List.map (D.int .u8) l25))], 1⟩ ?_ ?_
      · refine step (v := .loc 0 0 l16.length) rfl ?_
        refine step (v := .d (eL (some 12) eapi_Deed a0)) rfl ?_
        refine step (v := .d (.int .i64 i17)) rfl ?_
        refine step (v := .d (.cptr (some 12) (eapi_Deed x23) 0)) (st_iaddr (xs := a0) (e := eapi_Deed) hx23 rfl rfl) ?_
        refine step (v := .d (eapi_Deed x23)) rfl ?_
        refine stepC (r := eL none (D.int .u8) r24) (ArgsOk.dt ArgsOk.nil') (c_ref32_deed hr24) ?_
        refine step (v := .loc 1 0 l25.length) (σ' := (upd (upd (stab [(0, .lst false none (List.map (D.int .u8) l16))]) 0 none) 1 (some (.lst false none (List.map (D.int .u8) l25))))) (n' := 2) (st_app (xs := l16) (ys := r24) (e := (D.int .u8)) hl25 rfl rfl rfl (src_v (xs := r24) (e := (D.int .u8)) rfl)) ?_
        refine step (v := .loc 1 0 l25.length) rfl ?_
        exact RunOps.nil' (Norm.mk [1] (by decide) (by decide) (by decide) ⟨.d _, .loc 0 _ _ (show 0 < 1 by decide), .d _, trivial⟩ ⟨⟨show 0 < 1 by decide, _, rfl, .lst _ _ _⟩, trivial⟩)
      have hh := Option.some.inj h
      subst hh
      refine NWp.opsE ⟨tab [(0, .d (eL (some 12) eapi_Deed a0)), (5, .loc 0 0 l25.length), (6, .d (.int .i64 (i17 + 1)))], stab [(0, .lst false none (List.map (D.int .u8) l25))], 1⟩ ?_ ?_
      · refine step (v := .d (.int .i64 i17)) rfl ?_
        refine step (v := .d (.int .i64 (i17 + 1))) (st_inc (inc_ok hinv20 hgo19 hB18) rfl rfl) ?_
        refine step (v := .d (.int .i64 (i17 + 1))) rfl ?_
        exact RunOps.nil' (Norm.mk [0] (by decide) (by decide) (by decide) ⟨.d _, .loc 0 _ _ (show 0 < 1 by decide), .d _, trivial⟩ ⟨⟨show 0 < 1 by decide, _, rfl, .lst _ _ _⟩, trivial⟩)
      exact And.intro rfl rfl
    · rintro i17 l16 hinv20 hgo19
      show NWp _ _ _ _ _ ⟨tab [(0, .d (eL (some 12) eapi_Deed a0)), (5, .loc 0 0 l16.length), (6, .d (.int .i64 i17))], stab [(0, .lst false none (List.map (D.int .u8) l16))], 1⟩
      have hc21 : ¬ (decide (i17 < (a0.length : Int)) = true) := fun hq => hgo19 (of_decide_eq_true hq)
      refine NWp.seq ?_
      refine NWp.opsJ ⟨tab [(0, .d (eL (some 12) eapi_Deed a0)), (5, .loc 0 0 l16.length), (6, .d (.int .i64 i17)), (63, .d (.bool (decide (i17 < (a0.length : Int)))))], stab [(0, .lst false none (List.map (D.int .u8) l16))], 1⟩ ?_ ?_
      · refine step (v := .d (.int .i64 i17)) rfl ?_
        refine step (v := .d (eL (some 12) eapi_Deed a0)) rfl ?_
        refine step (v := .d (.int .i64 (a0.length : Int))) (st_len (xs := a0) (e := eapi_Deed) rfl) ?_
        refine step (v := .d (.bool (decide (i17 < (a0.length : Int))))) rfl ?_
        exact RunOps.nil' (Norm.mk [0] (by decide) (by decide) (by decide) ⟨.d _, .loc 0 _ _ (show 0 < 1 by decide), .d _, .d _, trivial⟩ ⟨⟨show 0 < 1 by decide, _, rfl, .lst _ _ _⟩, trivial⟩)
      refine NWp.condF (t := decide (i17 < (a0.length : Int))) rfl hc21 ?_
      refine NWp.norm (s0 := ⟨tab [(5, .loc 0 0 l16.length)], stab [(0, .lst false none (List.map (D.int .u8) l16))], 1⟩) (Norm.mk [0] (by decide) (by decide) (by decide) ⟨.loc 0 _ _ (show 0 < 1 by decide), trivial⟩ ⟨⟨show 0 < 1 by decide, _, rfl, .lst _ _ _⟩, trivial⟩) ?_
      refine NWp.exit ?_
      exact And.intro rfl rfl
    obtain ⟨r27, hr27, h⟩ := bindE h
    obtain ⟨r28, hr28, h⟩ := bindE h
    obtain ⟨l29, hl29, h⟩ := bindE h
    refine NWp.opsJ ⟨tab [(2, .d (.str (strOfB l29))), (3, .d (.int .i64 0))], stab [], 0⟩ ?_ ?_
    · refine step (v := .loc 0 0 z26.length) rfl ?_
      refine step (v := .loc 0 0 z26.length) rfl ?_
      refine stepC (r := .int .u16 r27) (ArgsOk.lcm (xs := z26) (e := (D.int .u8)) rfl rfl ArgsOk.nil') (c_ref03_Check hr27) ?_
      refine stepC (r := eL none (D.int .u8) r28) (ArgsOk.dt ArgsOk.nil') (c_ref03_Two hr28) ?_
      refine step (v := .loc 1 0 l29.length) (σ' := (upd (upd (stab [(0, .lst false none (List.map (D.int .u8) z26))]) 0 none) 1 (some (.lst false none (List.map (D.int .u8) l29))))) (n' := 2) (st_app (xs := z26) (ys := r28) (e := (D.int .u8)) hl29 rfl rfl rfl (src_v (xs := r28) (e := (D.int .u8)) rfl)) ?_
      refine step (v := .d (.str (strOfB l29))) (st_b2sL (xs := l29) rfl rfl rfl) ?_
      refine step (v := .d (.str (strOfB l29))) rfl ?_
      refine step (v := .d (.int .i64 0)) rfl ?_
      exact RunOps.nil' (Norm.mk [] (by decide) (by decide) (by decide) ⟨.d _, .d _, trivial⟩ trivial)
    have hh := Option.some.inj h
    subst hh
    refine NWp.ret ?_
    show FQ _ _ _ _
    exact FQ.mkT (.inr rfl) (res_t (v := .d (.str (strOfB l29))) rfl (res_t (v := .d (.int .i64 0)) rfl rfl)) (RV.d (RV.d trivial))

theorem c_ref32_Decode {a0 : ByteArray} {r : ((List api_Deed) × Bool)} (h : ref32_Decode a0 = some r) : PCall Try.prog 15 [.str a0] (.tup [eL (some 12) eapi_Deed r.1, .bool r.2]) := by
  refine PCall.introN ok15 (show 1 ≤ 156 by decide) ?_
  refine NWp.norm (s0 := ⟨tab [(0, .d (.str a0))], stab [], 0⟩) (Norm.mk [] (by decide) (by decide) (by decide) ⟨.d _, trivial⟩ trivial) ?_
  refine NWp.opsJ ⟨tab [(0, .d (.str a0))], stab [], 0⟩ ?_ ?_
  · refine step (v := .d (eL (some 12) eapi_Deed ([] : List api_Deed))) rfl ?_
    refine step (v := .d (.bool false)) rfl ?_
    exact RunOps.nil' (Norm.mk [] (by decide) (by decide) (by decide) ⟨.d _, trivial⟩ trivial)
  refine NWp.seq ?_
  obtain ⟨y3, hv, h⟩ := bindE h
  refine NWp.opsJ ⟨tab [(0, .d (.str a0)), (25, .d (.bool y3))], stab [], 0⟩ ?_ ?_
  · refine step (v := .d (.str a0)) rfl ?_
    refine step (v := .d (.int .i64 (a0.size : Int))) rfl ?_
    refine step (v := .d (.bool (decide ((a0.size : Int) < 4)))) rfl ?_
    refine step (v := .d (.bool (decide ((a0.size : Int) < 4)))) rfl ?_
    by_cases hg1 : decide ((a0.size : Int) < 4) = true
    · replace hv := iteT hg1 hv
      refine stepX (c := decide ((a0.size : Int) < 4)) rfl (by rw [hg1]; decide) ?_
      refine stepX (c := decide ((a0.size : Int) < 4)) rfl (by rw [hg1]; decide) ?_
      refine stepX (c := decide ((a0.size : Int) < 4)) rfl (by rw [hg1]; decide) ?_
      refine step (v := .d (.bool true)) (st_pickT (b := decide ((a0.size : Int) < 4)) rfl hg1 rfl) ?_
      have hh := Option.some.inj hv
      subst hh
      exact RunOps.nil' (Norm.mk [] (by decide) (by decide) (by decide) ⟨.d _, .d _, trivial⟩ trivial)
    · replace hv := iteF hg1 hv
      obtain ⟨b2, hb2, hv⟩ := bindE hv
      refine stepG (c := decide ((a0.size : Int) < 4)) rfl (Bool.eq_false_iff.2 hg1) ?_
      refine step (v := .d (.str a0)) rfl ?_
      refine stepG (c := decide ((a0.size : Int) < 4)) rfl (Bool.eq_false_iff.2 hg1) ?_
      refine step (v := .d (.int .u8 b2)) (st_idxS hb2 rfl rfl) ?_
      refine stepG (c := decide ((a0.size : Int) < 4)) rfl (Bool.eq_false_iff.2 hg1) ?_
      refine step (v := .d (.bool (b2 != 68))) rfl ?_
      refine step (v := .d (.bool (b2 != 68))) (st_pickF (b := decide ((a0.size : Int) < 4)) rfl hg1 rfl) ?_
      have hh := Option.some.inj hv
      subst hh
      exact RunOps.nil' (Norm.mk [] (by decide) (by decide) (by decide) ⟨.d _, .d _, trivial⟩ trivial)
  by_cases hc5 : y3 = true
  · replace h := iteT hc5 h
    refine NWp.condT (t := y3) rfl hc5 ?_
    refine NWp.opsJ ⟨tab [(2, .d (eL (some 12) eapi_Deed ([] : List api_Deed))), (3, .d (.bool false))], stab [], 0⟩ ?_ ?_
    · refine step (v := .d (eL (some 12) eapi_Deed ([] : List api_Deed))) rfl ?_
      refine step (v := .d (.bool false)) rfl ?_
      exact RunOps.nil' (Norm.mk [] (by decide) (by decide) (by decide) ⟨.d _, .d _, trivial⟩ trivial)
    have hh := Option.some.inj h
    subst hh
    refine NWp.ret ?_
    show FQ _ _ _ _
    exact FQ.mkT (.inr rfl) (res_t (v := .d (eL (some 12) eapi_Deed ([] : List api_Deed))) rfl (res_t (v := .d (.bool false)) rfl rfl)) (RV.d (RV.d trivial))
  · replace h := iteF hc5 h
    refine NWp.condF (t := y3) rfl hc5 ?_
    refine NWp.skip ?_
    obtain ⟨r6, hr6, h⟩ := bindE h
    refine NWp.opsJ ⟨tab [(0, .d (.str a0)), (4, .d (.int .i64 r6.1)), (5, .d (.int .i64 r6.2))], stab [], 0⟩ ?_ ?_
    · refine step (v := .d (.str a0)) rfl ?_
      refine stepC (r := .tup [.int .i64 r6.1, .int .i64 r6.2]) (ArgsOk.dt (ArgsOk.dt ArgsOk.nil')) (c_ref32_number hr6) ?_
      refine step (v := .d (.tup [.int .i64 r6.1, .int .i64 r6.2])) rfl ?_
      refine step (v := .d (.int .i64 r6.1)) rfl ?_
      refine step (v := .d (.int .i64 r6.2)) rfl ?_
      refine step (v := .d (.int .i64 r6.1)) rfl ?_
      refine step (v := .d (.int .i64 r6.2)) rfl ?_
      exact RunOps.nil' (Norm.mk [] (by decide) (by decide) (by decide) ⟨.d _, .d _, .d _, trivial⟩ trivial)
    refine NWp.seq ?_
    refine NWp.opsJ ⟨tab [(0, .d (.str a0)), (4, .d (.int .i64 r6.1)), (5, .d (.int .i64 r6.2)), (36, .d (.bool ((decide (r6.2 < 0)) || (decide (r6.1 > 10000)))))], stab [], 0⟩ ?_ ?_
    · refine step (v := .d (.int .i64 r6.2)) rfl ?_
      refine step (v := .d (.bool (decide (r6.2 < 0)))) rfl ?_
      refine step (v := .d (.bool (decide (r6.2 < 0)))) rfl ?_
      by_cases hg7 : decide (r6.2 < 0) = true
      · refine stepX (c := decide (r6.2 < 0)) rfl (by rw [hg7]; decide) ?_
        refine stepX (c := decide (r6.2 < 0)) rfl (by rw [hg7]; decide) ?_
        refine step (v := .d (.bool true)) (st_pickT (b := decide (r6.2 < 0)) rfl hg7 rfl) ?_
        exact RunOps.nil' (Norm.mk [] (by decide) (by decide) (by decide) ⟨.d _, .d _, .d _, .eq (by simp [hg7]), trivial⟩ trivial)
      · refine stepG (c := decide (r6.2 < 0)) rfl (Bool.eq_false_iff.2 hg7) ?_
        refine step (v := .d (.int .i64 r6.1)) rfl ?_
        refine stepG (c := decide (r6.2 < 0)) rfl (Bool.eq_false_iff.2 hg7) ?_
        refine step (v := .d (.bool (decide (r6.1 > 10000)))) rfl ?_
        refine step (v := .d (.bool (decide (r6.1 > 10000)))) (st_pickF (b := decide (r6.2 < 0)) rfl hg7 rfl) ?_
        exact RunOps.nil' (Norm.mk [] (by decide) (by decide) (by decide) ⟨.d _, .d _, .d _, .eq (by simp [hg7]), trivial⟩ trivial)
    by_cases hc8 : ((decide (r6.2 < 0)) || (decide (r6.1 > 10000))) = true
    · replace h := iteT hc8 h
      refine NWp.condT (t := ((decide (r6.2 < 0)) || (decide (r6.1 > 10000)))) rfl hc8 ?_
      refine NWp.opsJ ⟨tab [(2, .d (eL (some 12) eapi_Deed ([] : List api_Deed))), (3, .d (.bool false))], stab [], 0⟩ ?_ ?_
      · refine step (v := .d (eL (some 12) eapi_Deed ([] : List api_Deed))) rfl ?_
        refine step (v := .d (.bool false)) rfl ?_
        exact RunOps.nil' (Norm.mk [] (by decide) (by decide) (by decide) ⟨.d _, .d _, trivial⟩ trivial)
      have hh := Option.some.inj h
      subst hh
      refine NWp.ret ?_
      show FQ _ _ _ _
      exact FQ.mkT (.inr rfl) (res_t (v := .d (eL (some 12) eapi_Deed ([] : List api_Deed))) rfl (res_t (v := .d (.bool false)) rfl rfl)) (RV.d (RV.d trivial))
    · replace h := iteF hc8 h
      refine NWp.condF (t := ((decide (r6.2 < 0)) || (decide (r6.1 > 10000)))) rfl hc8 ?_
      refine NWp.skip ?_
      refine NWp.opsJ ⟨tab [(0, .d (.str a0)), (4, .d (.int .i64 r6.1)), (5, .d (.int .i64 r6.2)), (6, .d (.nils))], stab [], 0⟩ ?_ ?_
      · refine step (v := .d (.nils)) rfl ?_
        exact RunOps.nil' (Norm.mk [] (by decide) (by decide) (by decide) ⟨.d _, .d _, .d _, .d _, trivial⟩ trivial)
      refine NWp.seq ?_
      obtain ⟨q72, hl, h⟩ := bindE h
      refine NWp.norm (s0 := ⟨tab [(0, .d (.str a0)), (4, .d (.int .i64 r6.1)), (5, .d (.int .i64 r6.2)), (6, .loc 0 0 (([] : List api_Deed).length))], stab [(0, .lst false (some 12) (List.map eapi_Deed ([] : List api_Deed)))], 1⟩) (Norm.trans (s2 := ⟨tab [(0, .d (.str a0)), (4, .d (.int .i64 r6.1)), (5, .d (.int .i64 r6.2)), (6, .loc 0 0 (([] : List api_Deed).length))], stab [(0, .lst false (some 12) (List.map eapi_Deed ([] : List api_Deed)))], 1⟩) (Norm.nil1 6 false (some 12) rfl) (Norm.mk [0] (by decide) (by decide) (by decide) ⟨.d _, .d _, .d _, .loc 0 _ _ (show 0 < 1 by decide), trivial⟩ ⟨⟨show 0 < 1 by decide, _, rfl, .lst _ _ _⟩, trivial⟩)) ?_
      refine NWp.block ?_
      refine loop_whR (fun (qq : (Int × (List api_Deed))) => ⟨tab [(0, .d (.str a0)), (4, .d (.int .i64 r6.1)), (5, .d (.int .i64 qq.1)), (6, .loc 0 0 qq.2.length)], stab [(0, .lst false (some 12) (List.map eapi_Deed qq.2))], 1⟩) 0 (fun (qq : (Int × (List api_Deed))) => ⟨tab [(0, .d (.str a0)), (6, .loc 0 0 qq.2.length)], stab [(0, .lst false (some 12) (List.map eapi_Deed qq.2))], 1⟩) (r := r) hl ?_ ?_ ?_
      · rintro ⟨i9, l10⟩ xr11 h
        show NWp _ _ _ _ _ ⟨tab [(0, .d (.str a0)), (4, .d (.int .i64 r6.1)), (5, .d (.int .i64 i9)), (6, .loc 0 0 l10.length)], stab [(0, .lst false (some 12) (List.map eapi_Deed l10))], 1⟩
        refine NWp.seq ?_
        refine NWp.opsJ ⟨tab [(0, .d (.str a0)), (4, .d (.int .i64 r6.1)), (5, .d (.int .i64 i9)), (6, .loc 0 0 l10.length), (40, .d (.bool (decide ((l10.length : Int) < r6.1))))], stab [(0, .lst false (some 12) (List.map eapi_Deed l10))], 1⟩ ?_ ?_
        · refine step (v := .loc 0 0 l10.length) rfl ?_
          refine step (v := .d (.int .i64 (l10.length : Int))) rfl ?_
          refine step (v := .d (.int .i64 r6.1)) rfl ?_
          refine step (v := .d (.bool (decide ((l10.length : Int) < r6.1)))) rfl ?_
          exact RunOps.nil' (Norm.mk [0] (by decide) (by decide) (by decide) ⟨.d _, .d _, .d _, .loc 0 _ _ (show 0 < 1 by decide), .d _, trivial⟩ ⟨⟨show 0 < 1 by decide, _, rfl, .lst _ _ _⟩, trivial⟩)
        by_cases hc12 : decide ((l10.length : Int) < r6.1) = true
        · replace h := iteT hc12 h
          refine NWp.condT (t := decide ((l10.length : Int) < r6.1)) rfl hc12 ?_
          refine NWp.skip ?_
          refine NWp.block ?_
          refine NWp.opsJ ⟨tab [(0, .d (.str a0)), (4, .d (.int .i64 r6.1)), (5, .d (.int .i64 i9)), (6, .loc 0 0 l10.length), (7, .ptr 1 0 0)], stab [(0, .lst false (some 12) (List.map eapi_Deed l10)), (1, .var [.d (.int .i64 0), .d (.int .i64 0), .d (.bool false), .d (.int .u16 0), .d (.int .u16 0), .d (.int .u16 0), .d (.int .u16 0), .d (.int .u16 0), .d (.int .u16 0), .d (.int .u16 0), .d (.int .u16 0), .d (.str (⟨#[]⟩ : ByteArray))])], 2⟩ ?_ ?_
          · refine step (v := .d (eapi_Deed (api_Deed.mk 0 0 false (A8.mk 0 0 0 0 0 0 0 0) (⟨#[]⟩ : ByteArray)))) (st_build (ds := [.int .i64 0, .int .i64 0, .bool false, .int .u16 0, .int .u16 0, .int .u16 0, .int .u16 0, .int .u16 0, .int .u16 0, .int .u16 0, .int .u16 0, .str (⟨#[]⟩ : ByteArray)]) rfl) ?_
            refine step (v := .ptr 1 0 0) (σ' := (upd (stab [(0, .lst false (some 12) (List.map eapi_Deed l10))]) 1 (some (.var [.d (.int .i64 0), .d (.int .i64 0), .d (.bool false), .d (.int .u16 0), .d (.int .u16 0), .d (.int .u16 0), .d (.int .u16 0), .d (.int .u16 0), .d (.int .u16 0), .d (.int .u16 0), .d (.int .u16 0), .d (.str (⟨#[]⟩ : ByteArray))])))) (n' := 2) rfl ?_
            refine step (v := V.undef) (σ' := (upd (upd (stab [(0, .lst false (some 12) (List.map eapi_Deed l10))]) 1 (some (.var [.d (.int .i64 0), .d (.int .i64 0), .d (.bool false), .d (.int .u16 0), .d (.int .u16 0), .d (.int .u16 0), .d (.int .u16 0), .d (.int .u16 0), .d (.int .u16 0), .d (.int .u16 0), .d (.int .u16 0), .d (.str (⟨#[]⟩ : ByteArray))]))) 1 (some (.var [.d (.int .i64 0), .d (.int .i64 0), .d (.bool false), .d (.int .u16 0), .d (.int .u16 0), .d (.int .u16 0), .d (.int .u16 0), .d (.int .u16 0), .d (.int .u16 0), .d (.int .u16 0), .d (.int .u16 0), .d (.str (⟨#[]⟩ : ByteArray))])))) (n' := 2) rfl ?_
            exact RunOps.nil' (Norm.mk [0, 1] (by decide) (by decide) (by decide) ⟨.d _, .d _, .d _, .loc 0 _ _ (show 0 < 2 by decide), .ptr 1 _ _ (show 1 < 2 by decide), trivial⟩ ⟨⟨show 0 < 2 by decide, _, rfl, .lst _ _ _⟩, ⟨show 1 < 2 by decide, _, rfl, .vars ⟨.d _, .d _, .d _, .d _, .d _, .d _, .d _, .d _, .d _, .d _, .d _, .d _, trivial⟩⟩, trivial⟩)
          refine NWp.seq ?_
          refine NWp.opsJ ⟨tab [(0, .d (.str a0)), (4, .d (.int .i64 r6.1)), (5, .d (.int .i64 i9)), (6, .loc 0 0 l10.length), (7, .ptr 1 0 0), (8, .d (.int .i64 0))], stab [(0, .lst false (some 12) (List.map eapi_Deed l10)), (1, .var [.d (.int .i64 0), .d (.int .i64 0), .d (.bool false), .d (.int .u16 0), .d (.int .u16 0), .d (.int .u16 0), .d (.int .u16 0), .d (.int .u16 0), .d (.int .u16 0), .d (.int .u16 0), .d (.int .u16 0), .d (.str (⟨#[]⟩ : ByteArray))])], 2⟩ ?_ ?_
          · refine step (v := .d (.int .i64 0)) rfl ?_
            exact RunOps.nil' (Norm.mk [0, 1] (by decide) (by decide) (by decide) ⟨.d _, .d _, .d _, .loc 0 _ _ (show 0 < 2 by decide), .ptr 1 _ _ (show 1 < 2 by decide), .d _, trivial⟩ ⟨⟨show 0 < 2 by decide, _, rfl, .lst _ _ _⟩, ⟨show 1 < 2 by decide, _, rfl, .vars ⟨.d _, .d _, .d _, .d _, .d _, .d _, .d _, .d _, .d _, .d _, .d _, .d _, trivial⟩⟩, trivial⟩)
          obtain ⟨q66, hl, h⟩ := bindE h
          refine NWp.norm (s0 := ⟨tab [(0, .d (.str a0)), (4, .d (.int .i64 r6.1)), (5, .d (.int .i64 i9)), (6, .loc 0 0 l10.length), (7, .ptr 1 0 0), (8, .d (.int .i64 0))], stab [(0, .lst false (some 12) (List.map eapi_Deed l10)), (1, .var [.d (.int .i64 ((api_Deed.mk 0 0 false (A8.mk 0 0 0 0 0 0 0 0) (⟨#[]⟩ : ByteArray)).What)), .d (.int .i64 ((api_Deed.mk 0 0 false (A8.mk 0 0 0 0 0 0 0 0) (⟨#[]⟩ : ByteArray)).N)), .d (.bool ((api_Deed.mk 0 0 false (A8.mk 0 0 0 0 0 0 0 0) (⟨#[]⟩ : ByteArray)).Back)), .d (.int .u16 ((api_Deed.mk 0 0 false (A8.mk 0 0 0 0 0 0 0 0) (⟨#[]⟩ : ByteArray)).P.a0)), .d (.int .u16 ((api_Deed.mk 0 0 false (A8.mk 0 0 0 0 0 0 0 0) (⟨#[]⟩ : ByteArray)).P.a1)), .d (.int .u16 ((api_Deed.mk 0 0 false (A8.mk 0 0 0 0 0 0 0 0) (⟨#[]⟩ : ByteArray)).P.a2)), .d (.int .u16 ((api_Deed.mk 0 0 false (A8.mk 0 0 0 0 0 0 0 0) (⟨#[]⟩ : ByteArray)).P.a3)), .d (.int .u16 ((api_Deed.mk 0 0 false (A8.mk 0 0 0 0 0 0 0 0) (⟨#[]⟩ : ByteArray)).P.a4)), .d (.int .u16 ((api_Deed.mk 0 0 false (A8.mk 0 0 0 0 0 0 0 0) (⟨#[]⟩ : ByteArray)).P.a5)), .d (.int .u16 ((api_Deed.mk 0 0 false (A8.mk 0 0 0 0 0 0 0 0) (⟨#[]⟩ : ByteArray)).P.a6)), .d (.int .u16 ((api_Deed.mk 0 0 false (A8.mk 0 0 0 0 0 0 0 0) (⟨#[]⟩ : ByteArray)).P.a7)), .d (.str ((api_Deed.mk 0 0 false (A8.mk 0 0 0 0 0 0 0 0) (⟨#[]⟩ : ByteArray)).Raw))])], 2⟩) (Norm.mk [0, 1] (by decide) (by decide) (by decide) ⟨.d _, .d _, .d _, .loc 0 _ _ (show 0 < 2 by decide), .ptr 1 _ _ (show 1 < 2 by decide), .d _, trivial⟩ ⟨⟨show 0 < 2 by decide, _, rfl, .lst _ _ _⟩, ⟨show 1 < 2 by decide, _, rfl, .vars ⟨.d _, .d _, .d _, .d _, .d _, .d _, .d _, .d _, .d _, .d _, .d _, .d _, trivial⟩⟩, trivial⟩) ?_
          refine NWp.block ?_
          refine loop_forR (cntU 2) (fun (i14 : Int) (qq : (Int × api_Deed)) => ⟨tab [(0, .d (.str a0)), (4, .d (.int .i64 r6.1)), (5, .d (.int .i64 qq.1)), (6, .loc 0 0 l10.length), (7, .ptr 1 0 0), (8, .d (.int .i64 i14))], stab [(0, .lst false (some 12) (List.map eapi_Deed l10)), (1, .var [.d (.int .i64 qq.2.What), .d (.int .i64 qq.2.N), .d (.bool qq.2.Back), .d (.int .u16 qq.2.P.a0), .d (.int .u16 qq.2.P.a1), .d (.int .u16 qq.2.P.a2), .d (.int .u16 qq.2.P.a3), .d (.int .u16 qq.2.P.a4), .d (.int .u16 qq.2.P.a5), .d (.int .u16 qq.2.P.a6), .d (.int .u16 qq.2.P.a7), .d (.str qq.2.Raw)])], 2⟩) 2 (fun (qq : (Int × api_Deed)) => ⟨tab [(0, .d (.str a0)), (4, .d (.int .i64 r6.1)), (5, .d (.int .i64 qq.1)), (6, .loc 0 0 l10.length), (7, .ptr 1 0 0)], stab [(0, .lst false (some 12) (List.map eapi_Deed l10)), (1, .var [.d (.int .i64 qq.2.What), .d (.int .i64 qq.2.N), .d (.bool qq.2.Back), .d (.int .u16 qq.2.P.a0), .d (.int .u16 qq.2.P.a1), .d (.int .u16 qq.2.P.a2), .d (.int .u16 qq.2.P.a3), .d (.int .u16 qq.2.P.a4), .d (.int .u16 qq.2.P.a5), .d (.int .u16 qq.2.P.a6), .d (.int .u16 qq.2.P.a7), .d (.str qq.2.Raw)])], 2⟩) Low low_step (r := xr11) hl (by unfold Low; omega) ?_ ?_ ?_ ?_
          · rintro i14 ⟨i13, y15⟩ xr20 hinv18 hgo17 h
            show NWp _ _ _ _ _ ⟨tab [(0, .d (.str a0)), (4, .d (.int .i64 r6.1)), (5, .d (.int .i64 i13)), (6, .loc 0 0 l10.length), (7, .ptr 1 0 0), (8, .d (.int .i64 i14))], stab [(0, .lst false (some 12) (List.map eapi_Deed l10)), (1, .var [.d (.int .i64 y15.What), .d (.int .i64 y15.N), .d (.bool y15.Back), .d (.int .u16 y15.P.a0), .d (.int .u16 y15.P.a1), .d (.int .u16 y15.P.a2), .d (.int .u16 y15.P.a3), .d (.int .u16 y15.P.a4), .d (.int .u16 y15.P.a5), .d (.int .u16 y15.P.a6), .d (.int .u16 y15.P.a7), .d (.str y15.Raw)])], 2⟩
            have hc19 : decide (i14 < 2) = true := decide_eq_true hgo17
            refine NWp.seq ?_
            refine NWp.opsJ ⟨tab [(0, .d (.str a0)), (4, .d (.int .i64 r6.1)), (5, .d (.int .i64 i13)), (6, .loc 0 0 l10.length), (7, .ptr 1 0 0), (8, .d (.int .i64 i14)), (43, .d (.bool (decide (i14 < 2))))], stab [(0, .lst false (some 12) (List.map eapi_Deed l10)), (1, .var [.d (.int .i64 y15.What), .d (.int .i64 y15.N), .d (.bool y15.Back), .d (.int .u16 y15.P.a0), .d (.int .u16 y15.P.a1), .d (.int .u16 y15.P.a2), .d (.int .u16 y15.P.a3), .d (.int .u16 y15.P.a4), .d (.int .u16 y15.P.a5), .d (.int .u16 y15.P.a6), .d (.int .u16 y15.P.a7), .d (.str y15.Raw)])], 2⟩ ?_ ?_
            · refine step (v := .d (.int .i64 i14)) rfl ?_
              refine step (v := .d (.bool (decide (i14 < 2)))) rfl ?_
              exact RunOps.nil' (Norm.mk [0, 1] (by decide) (by decide) (by decide) ⟨.d _, .d _, .d _, .loc 0 _ _ (show 0 < 2 by decide), .ptr 1 _ _ (show 1 < 2 by decide), .d _, .d _, trivial⟩ ⟨⟨show 0 < 2 by decide, _, rfl, .lst _ _ _⟩, ⟨show 1 < 2 by decide, _, rfl, .vars ⟨.d _, .d _, .d _, .d _, .d _, .d _, .d _, .d _, .d _, .d _, .d _, .d _, trivial⟩⟩, trivial⟩)
            refine NWp.condT (t := decide (i14 < 2)) rfl hc19 ?_
            refine NWp.skip ?_
            obtain ⟨q26, hv, h⟩ := bindE h
            refine NWp.seqS (fun (qq : (Int × api_Deed)) => ⟨tab [(0, .d (.str a0)), (4, .d (.int .i64 r6.1)), (5, .d (.int .i64 qq.1)), (6, .loc 0 0 l10.length), (7, .ptr 1 0 0), (8, .d (.int .i64 i14))], stab [(0, .lst false (some 12) (List.map eapi_Deed l10)), (1, .var [.d (.int .i64 qq.2.What), .d (.int .i64 qq.2.N), .d (.bool qq.2.Back), .d (.int .u16 qq.2.P.a0), .d (.int .u16 qq.2.P.a1), .d (.int .u16 qq.2.P.a2), .d (.int .u16 qq.2.P.a3), .d (.int .u16 qq.2.P.a4), .d (.int .u16 qq.2.P.a5), .d (.int .u16 qq.2.P.a6), .d (.int .u16 qq.2.P.a7), .d (.str qq.2.Raw)])], 2⟩) (xv := q26) (r := xr20) ?_ ?_ ?_
            · replace h := hv
              refine NWp.block ?_
              obtain ⟨r21, hr21, h⟩ := bindE h
              refine NWp.opsJ ⟨tab [(0, .d (.str a0)), (4, .d (.int .i64 r6.1)), (6, .loc 0 0 l10.length), (7, .ptr 1 0 0), (8, .d (.int .i64 i14)), (9, .d (.int .i64 r21.1)), (10, .d (.int .i64 r21.2))], stab [(0, .lst false (some 12) (List.map eapi_Deed l10)), (1, .var [.d (.int .i64 y15.What), .d (.int .i64 y15.N), .d (.bool y15.Back), .d (.int .u16 y15.P.a0), .d (.int .u16 y15.P.a1), .d (.int .u16 y15.P.a2), .d (.int .u16 y15.P.a3), .d (.int .u16 y15.P.a4), .d (.int .u16 y15.P.a5), .d (.int .u16 y15.P.a6), .d (.int .u16 y15.P.a7), .d (.str y15.Raw)])], 2⟩ ?_ ?_
              · refine step (v := .d (.str a0)) rfl ?_
                refine step (v := .d (.int .i64 i13)) rfl ?_
                refine stepC (r := .tup [.int .i64 r21.1, .int .i64 r21.2]) (ArgsOk.dt (ArgsOk.dt ArgsOk.nil')) (c_ref32_number hr21) ?_
                refine step (v := .d (.tup [.int .i64 r21.1, .int .i64 r21.2])) rfl ?_
                refine step (v := .d (.int .i64 r21.1)) rfl ?_
                refine step (v := .d (.int .i64 r21.2)) rfl ?_
                refine step (v := .d (.int .i64 r21.1)) rfl ?_
                refine step (v := .d (.int .i64 r21.2)) rfl ?_
                exact RunOps.nil' (Norm.mk [0, 1] (by decide) (by decide) (by decide) ⟨.d _, .d _, .loc 0 _ _ (show 0 < 2 by decide), .ptr 1 _ _ (show 1 < 2 by decide), .d _, .d _, .d _, trivial⟩ ⟨⟨show 0 < 2 by decide, _, rfl, .lst _ _ _⟩, ⟨show 1 < 2 by decide, _, rfl, .vars ⟨.d _, .d _, .d _, .d _, .d _, .d _, .d _, .d _, .d _, .d _, .d _, .d _, trivial⟩⟩, trivial⟩)
              refine NWp.seq ?_
              refine NWp.opsJ ⟨tab [(0, .d (.str a0)), (4, .d (.int .i64 r6.1)), (6, .loc 0 0 l10.length), (7, .ptr 1 0 0), (8, .d (.int .i64 i14)), (9, .d (.int .i64 r21.1)), (10, .d (.int .i64 r21.2)), (53, .d (.bool (decide (r21.2 < 0))))], stab [(0, .lst false (some 12) (List.map eapi_Deed l10)), (1, .var [.d (.int .i64 y15.What), .d (.int .i64 y15.N), .d (.bool y15.Back), .d (.int .u16 y15.P.a0), .d (.int .u16 y15.P.a1), .d (.int .u16 y15.P.a2), .d (.int .u16 y15.P.a3), .d (.int .u16 y15.P.a4), .d (.int .u16 y15.P.a5), .d (.int .u16 y15.P.a6), .d (.int .u16 y15.P.a7), .d (.str y15.Raw)])], 2⟩ ?_ ?_
              · refine step (v := .d (.int .i64 r21.2)) rfl ?_
                refine step (v := .d (.bool (decide (r21.2 < 0)))) rfl ?_
                exact RunOps.nil' (Norm.mk [0, 1] (by decide) (by decide) (by decide) ⟨.d _, .d _, .loc 0 _ _ (show 0 < 2 by decide), .ptr 1 _ _ (show 1 < 2 by decide), .d _, .d _, .d _, .d _, trivial⟩ ⟨⟨show 0 < 2 by decide, _, rfl, .lst _ _ _⟩, ⟨show 1 < 2 by decide, _, rfl, .vars ⟨.d _, .d _, .d _, .d _, .d _, .d _, .d _, .d _, .d _, .d _, .d _, .d _, trivial⟩⟩, trivial⟩)
              by_cases hc22 : decide (r21.2 < 0) = true
              · replace h := iteT hc22 h
                refine NWp.condT (t := decide (r21.2 < 0)) rfl hc22 ?_
                refine NWp.opsJ ⟨tab [(2, .d (eL (some 12) eapi_Deed ([] : List api_Deed))), (3, .d (.bool false))], stab [], 0⟩ ?_ ?_
                · refine step (v := .d (eL (some 12) eapi_Deed ([] : List api_Deed))) rfl ?_
                  refine step (v := .d (.bool false)) rfl ?_
                  exact RunOps.nil' (Norm.mk [] (by decide) (by decide) (by decide) ⟨.d _, .d _, trivial⟩ trivial)
                obtain ⟨r23, kr23, hr⟩ := mapE (o := some (Br.ret (Br.ret (([] : List api_Deed), false)))) (g := Sum.inr) h
                subst hr
                have h := kr23
                obtain ⟨r24, kr24, hr⟩ := mapE (o := some (Br.ret (([] : List api_Deed), false))) (g := Br.ret) h
                subst hr
                have h := kr24
                obtain ⟨r25, kr25, hr⟩ := mapE (o := some (([] : List api_Deed), false)) (g := Br.ret) h
                subst hr
                have h := kr25
                have hh := Option.some.inj h
                subst hh
                refine NWp.ret ?_
                refine And.intro (fun hn => nomatch hn) ?_
                intro hq
                have hq := hq.symm
                subst hq
                refine And.intro (fun hn => nomatch hn) ?_
                intro hq
                have hq := hq.symm
                subst hq
                refine And.intro (fun hn => nomatch hn) ?_
                intro hq
                have hq := hq.symm
                subst hq
                show FQ _ _ _ _
                exact FQ.mkT (.inr rfl) (res_t (v := .d (eL (some 12) eapi_Deed ([] : List api_Deed))) rfl (res_t (v := .d (.bool false)) rfl rfl)) (RV.d (RV.d trivial))
              · replace h := iteF hc22 h
                refine NWp.condF (t := decide (r21.2 < 0)) rfl hc22 ?_
                refine NWp.skip ?_
                refine NWp.opsJ ⟨tab [(0, .d (.str a0)), (4, .d (.int .i64 r6.1)), (5, .d (.int .i64 r21.2)), (6, .loc 0 0 l10.length), (7, .ptr 1 0 0), (8, .d (.int .i64 i14)), (9, .d (.int .i64 r21.1))], stab [(0, .lst false (some 12) (List.map eapi_Deed l10)), (1, .var [.d (.int .i64 y15.What), .d (.int .i64 y15.N), .d (.bool y15.Back), .d (.int .u16 y15.P.a0), .d (.int .u16 y15.P.a1), .d (.int .u16 y15.P.a2), .d (.int .u16 y15.P.a3), .d (.int .u16 y15.P.a4), .d (.int .u16 y15.P.a5), .d (.int .u16 y15.P.a6), .d (.int .u16 y15.P.a7), .d (.str y15.Raw)])], 2⟩ ?_ ?_
                · refine step (v := .d (.int .i64 r21.2)) rfl ?_
                  refine step (v := .d (.int .i64 r21.2)) rfl ?_
                  exact RunOps.nil' (Norm.mk [0, 1] (by decide) (by decide) (by decide) ⟨.d _, .d _, .d _, .loc 0 _ _ (show 0 < 2 by decide), .ptr 1 _ _ (show 1 < 2 by decide), .d _, .d _, trivial⟩ ⟨⟨show 0 < 2 by decide, _, rfl, .lst _ _ _⟩, ⟨show 1 < 2 by decide, _, rfl, .vars ⟨.d _, .d _, .d _, .d _, .d _, .d _, .d _, .d _, .d _, .d _, .d _, .d _, trivial⟩⟩, trivial⟩)
                refine NWp.opsJ ⟨tab [(0, .d (.str a0)), (4, .d (.int .i64 r6.1)), (5, .d (.int .i64 r21.2)), (6, .loc 0 0 l10.length), (7, .ptr 1 0 0), (8, .d (.int .i64 i14)), (9, .d (.int .i64 r21.1)), (56, .d (.bool (i14 == 0)))], stab [(0, .lst false (some 12) (List.map eapi_Deed l10)), (1, .var [.d (.int .i64 y15.What), .d (.int .i64 y15.N), .d (.bool y15.Back), .d (.int .u16 y15.P.a0), .d (.int .u16 y15.P.a1), .d (.int .u16 y15.P.a2), .d (.int .u16 y15.P.a3), .d (.int .u16 y15.P.a4), .d (.int .u16 y15.P.a5), .d (.int .u16 y15.P.a6), .d (.int .u16 y15.P.a7), .d (.str y15.Raw)])], 2⟩ ?_ ?_
                · refine step (v := .d (.int .i64 i14)) rfl ?_
                  refine step (v := .d (.bool (i14 == 0))) rfl ?_
                  exact RunOps.nil' (Norm.mk [0, 1] (by decide) (by decide) (by decide) ⟨.d _, .d _, .d _, .loc 0 _ _ (show 0 < 2 by decide), .ptr 1 _ _ (show 1 < 2 by decide), .d _, .d _, .d _, trivial⟩ ⟨⟨show 0 < 2 by decide, _, rfl, .lst _ _ _⟩, ⟨show 1 < 2 by decide, _, rfl, .vars ⟨.d _, .d _, .d _, .d _, .d _, .d _, .d _, .d _, .d _, .d _, .d _, .d _, trivial⟩⟩, trivial⟩)
                by_cases hc23 : (i14 == 0) = true
                · replace h := iteT hc23 h
                  refine NWp.condT (t := (i14 == 0)) rfl hc23 ?_
                  have hh := Option.some.inj h
                  subst hh
                  refine NWp.opsE ⟨tab [(0, .d (.str a0)), (4, .d (.int .i64 r6.1)), (5, .d (.int .i64 r21.2)), (6, .loc 0 0 l10.length), (7, .ptr 1 0 0), (8, .d (.int .i64 i14))], stab [(0, .lst false (some 12) (List.map eapi_Deed l10)), (1, .var [.d (.int .i64 ((api_Deed.mk r21.1 y15.N y15.Back y15.P y15.Raw).What)), .d (.int .i64 ((api_Deed.mk r21.1 y15.N y15.Back y15.P y15.Raw).N)), .d (.bool ((api_Deed.mk r21.1 y15.N y15.Back y15.P y15.Raw).Back)), .d (.int .u16 ((api_Deed.mk r21.1 y15.N y15.Back y15.P y15.Raw).P.a0)), .d (.int .u16 ((api_Deed.mk r21.1 y15.N y15.Back y15.P y15.Raw).P.a1)), .d (.int .u16 ((api_Deed.mk r21.1 y15.N y15.Back y15.P y15.Raw).P.a2)), .d (.int .u16 ((api_Deed.mk r21.1 y15.N y15.Back y15.P y15.Raw).P.a3)), .d (.int .u16 ((api_Deed.mk r21.1 y15.N y15.Back y15.P y15.Raw).P.a4)), .d (.int .u16 ((api_Deed.mk r21.1 y15.N y15.Back y15.P y15.Raw).P.a5)), .d (.int .u16 ((api_Deed.mk r21.1 y15.N y15.Back y15.P y15.Raw).P.a6)), .d (.int .u16 ((api_Deed.mk r21.1 y15.N y15.Back y15.P y15.Raw).P.a7)), .d (.str ((api_Deed.mk r21.1 y15.N y15.Back y15.P y15.Raw).Raw))])], 2⟩ ?_ ?_
                  · refine step (v := .d (.int .i64 r21.1)) rfl ?_
                    refine step (v := .ptr 1 0 0) rfl ?_
                    refine step (v := V.undef) (σ' := (upd (stab [(0, .lst false (some 12) (List.map eapi_Deed l10)), (1, .var [.d (.int .i64 y15.What), .d (.int .i64 y15.N), .d (.bool y15.Back), .d (.int .u16 y15.P.a0), .d (.int .u16 y15.P.a1), .d (.int .u16 y15.P.a2), .d (.int .u16 y15.P.a3), .d (.int .u16 y15.P.a4), .d (.int .u16 y15.P.a5), .d (.int .u16 y15.P.a6), .d (.int .u16 y15.P.a7), .d (.str y15.Raw)])]) 1 (some (.var [.d (.int .i64 r21.1), .d (.int .i64 y15.N), .d (.bool y15.Back), .d (.int .u16 y15.P.a0), .d (.int .u16 y15.P.a1), .d (.int .u16 y15.P.a2), .d (.int .u16 y15.P.a3), .d (.int .u16 y15.P.a4), .d (.int .u16 y15.P.a5), .d (.int .u16 y15.P.a6), .d (.int .u16 y15.P.a7), .d (.str y15.Raw)])))) (n' := 2) rfl ?_
                    exact RunOps.nil' (Norm.mk [0, 1] (by decide) (by decide) (by decide) ⟨.d _, .d _, .d _, .loc 0 _ _ (show 0 < 2 by decide), .ptr 1 _ _ (show 1 < 2 by decide), .d _, trivial⟩ ⟨⟨show 0 < 2 by decide, _, rfl, .lst _ _ _⟩, ⟨show 1 < 2 by decide, _, rfl, .vars ⟨.d _, .d _, .d _, .d _, .d _, .d _, .d _, .d _, .d _, .d _, .d _, .d _, trivial⟩⟩, trivial⟩)
                  exact And.intro rfl rfl
                · replace h := iteF hc23 h
                  refine NWp.condF (t := (i14 == 0)) rfl hc23 ?_
                  have hh := Option.some.inj h
                  subst hh
                  refine NWp.opsE ⟨tab [(0, .d (.str a0)), (4, .d (.int .i64 r6.1)), (5, .d (.int .i64 r21.2)), (6, .loc 0 0 l10.length), (7, .ptr 1 0 0), (8, .d (.int .i64 i14))], stab [(0, .lst false (some 12) (List.map eapi_Deed l10)), (1, .var [.d (.int .i64 ((api_Deed.mk y15.What r21.1 y15.Back y15.P y15.Raw).What)), .d (.int .i64 ((api_Deed.mk y15.What r21.1 y15.Back y15.P y15.Raw).N)), .d (.bool ((api_Deed.mk y15.What r21.1 y15.Back y15.P y15.Raw).Back)), .d (.int .u16 ((api_Deed.mk y15.What r21.1 y15.Back y15.P y15.Raw).P.a0)), .d (.int .u16 ((api_Deed.mk y15.What r21.1 y15.Back y15.P y15.Raw).P.a1)), .d (.int .u16 ((api_Deed.mk y15.What r21.1 y15.Back y15.P y15.Raw).P.a2)), .d (.int .u16 ((api_Deed.mk y15.What r21.1 y15.Back y15.P y15.Raw).P.a3)), .d (.int .u16 ((api_Deed.mk y15.What r21.1 y15.Back y15.P y15.Raw).P.a4)), .d (.int .u16 ((api_Deed.mk y15.What r21.1 y15.Back y15.P y15.Raw).P.a5)), .d (.int .u16 ((api_Deed.mk y15.What r21.1 y15.Back y15.P y15.Raw).P.a6)), .d (.int .u16 ((api_Deed.mk y15.What r21.1 y15.Back y15.P y15.Raw).P.a7)), .d (.str ((api_Deed.mk y15.What r21.1 y15.Back y15.P y15.Raw).Raw))])], 2⟩ ?_ ?_
                  · refine step (v := .d (.int .i64 r21.1)) rfl ?_
                    refine step (v := .ptr 1 0 1) rfl ?_
                    refine step (v := V.undef) (σ' := (upd (stab [(0, .lst false (some 12) (List.map eapi_Deed l10)), (1, .var [.d (.int .i64 y15.What), .d (.int .i64 y15.N), .d (.bool y15.Back), .d (.int .u16 y15.P.a0), .d (.int .u16 y15.P.a1), .d (.int .u16 y15.P.a2), .d (.int .u16 y15.P.a3), .d (.int .u16 y15.P.a4), .d (.int .u16 y15.P.a5), .d (.int .u16 y15.P.a6), .d (.int .u16 y15.P.a7), .d (.str y15.Raw)])]) 1 (some (.var [.d (.int .i64 y15.What), .d (.int .i64 r21.1), .d (.bool y15.Back), .d (.int .u16 y15.P.a0), .d (.int .u16 y15.P.a1), .d (.int .u16 y15.P.a2), .d (.int .u16 y15.P.a3), .d (.int .u16 y15.P.a4), .d (.int .u16 y15.P.a5), .d (.int .u16 y15.P.a6), .d (.int .u16 y15.P.a7), .d (.str y15.Raw)])))) (n' := 2) rfl ?_
                    exact RunOps.nil' (Norm.mk [0, 1] (by decide) (by decide) (by decide) ⟨.d _, .d _, .d _, .loc 0 _ _ (show 0 < 2 by decide), .ptr 1 _ _ (show 1 < 2 by decide), .d _, trivial⟩ ⟨⟨show 0 < 2 by decide, _, rfl, .lst _ _ _⟩, ⟨show 1 < 2 by decide, _, rfl, .vars ⟨.d _, .d _, .d _, .d _, .d _, .d _, .d _, .d _, .d _, .d _, .d _, .d _, trivial⟩⟩, trivial⟩)
                  exact And.intro rfl rfl
            · intro r' hq
              subst hq
              exact Option.some.inj h
            rintro ⟨y24, y25⟩ rfl
            show NWp _ _ _ _ _ ⟨tab [(0, .d (.str a0)), (4, .d (.int .i64 r6.1)), (5, .d (.int .i64 y24)), (6, .loc 0 0 l10.length), (7, .ptr 1 0 0), (8, .d (.int .i64 i14))], stab [(0, .lst false (some 12) (List.map eapi_Deed l10)), (1, .var [.d (.int .i64 y25.What), .d (.int .i64 y25.N), .d (.bool y25.Back), .d (.int .u16 y25.P.a0), .d (.int .u16 y25.P.a1), .d (.int .u16 y25.P.a2), .d (.int .u16 y25.P.a3), .d (.int .u16 y25.P.a4), .d (.int .u16 y25.P.a5), .d (.int .u16 y25.P.a6), .d (.int .u16 y25.P.a7), .d (.str y25.Raw)])], 2⟩
            have hh := Option.some.inj h
            subst hh
            refine NWp.opsE ⟨tab [(0, .d (.str a0)), (4, .d (.int .i64 r6.1)), (5, .d (.int .i64 y24)), (6, .loc 0 0 l10.length), (7, .ptr 1 0 0), (8, .d (.int .i64 (i14 + 1)))], stab [(0, .lst false (some 12) (List.map eapi_Deed l10)), (1, .var [.d (.int .i64 y25.What), .d (.int .i64 y25.N), .d (.bool y25.Back), .d (.int .u16 y25.P.a0), .d (.int .u16 y25.P.a1), .d (.int .u16 y25.P.a2), .d (.int .u16 y25.P.a3), .d (.int .u16 y25.P.a4), .d (.int .u16 y25.P.a5), .d (.int .u16 y25.P.a6), .d (.int .u16 y25.P.a7), .d (.str y25.Raw)])], 2⟩ ?_ ?_
            · refine step (v := .d (.int .i64 i14)) rfl ?_
              refine step (v := .d (.int .i64 (i14 + 1))) (st_inc (inc_ok hinv18 hgo17 (by decide)) rfl rfl) ?_
              refine step (v := .d (.int .i64 (i14 + 1))) rfl ?_
              exact RunOps.nil' (Norm.mk [0, 1] (by decide) (by decide) (by decide) ⟨.d _, .d _, .d _, .loc 0 _ _ (show 0 < 2 by decide), .ptr 1 _ _ (show 1 < 2 by decide), .d _, trivial⟩ ⟨⟨show 0 < 2 by decide, _, rfl, .lst _ _ _⟩, ⟨show 1 < 2 by decide, _, rfl, .vars ⟨.d _, .d _, .d _, .d _, .d _, .d _, .d _, .d _, .d _, .d _, .d _, .d _, trivial⟩⟩, trivial⟩)
            exact And.intro rfl rfl
          · rintro i14 ⟨i13, y15⟩ hinv18 hgo17
            show NWp _ _ _ _ _ ⟨tab [(0, .d (.str a0)), (4, .d (.int .i64 r6.1)), (5, .d (.int .i64 i13)), (6, .loc 0 0 l10.length), (7, .ptr 1 0 0), (8, .d (.int .i64 i14))], stab [(0, .lst false (some 12) (List.map eapi_Deed l10)), (1, .var [.d (.int .i64 y15.What), .d (.int .i64 y15.N), .d (.bool y15.Back), .d (.int .u16 y15.P.a0), .d (.int .u16 y15.P.a1), .d (.int .u16 y15.P.a2), .d (.int .u16 y15.P.a3), .d (.int .u16 y15.P.a4), .d (.int .u16 y15.P.a5), .d (.int .u16 y15.P.a6), .d (.int .u16 y15.P.a7), .d (.str y15.Raw)])], 2⟩
            have hc19 : ¬ (decide (i14 < 2) = true) := fun hq => hgo17 (of_decide_eq_true hq)
            refine NWp.seq ?_
            refine NWp.opsJ ⟨tab [(0, .d (.str a0)), (4, .d (.int .i64 r6.1)), (5, .d (.int .i64 i13)), (6, .loc 0 0 l10.length), (7, .ptr 1 0 0), (8, .d (.int .i64 i14)), (43, .d (.bool (decide (i14 < 2))))], stab [(0, .lst false (some 12) (List.map eapi_Deed l10)), (1, .var [.d (.int .i64 y15.What), .d (.int .i64 y15.N), .d (.bool y15.Back), .d (.int .u16 y15.P.a0), .d (.int .u16 y15.P.a1), .d (.int .u16 y15.P.a2), .d (.int .u16 y15.P.a3), .d (.int .u16 y15.P.a4), .d (.int .u16 y15.P.a5), .d (.int .u16 y15.P.a6), .d (.int .u16 y15.P.a7), .d (.str y15.Raw)])], 2⟩ ?_ ?_
            · refine step (v := .d (.int .i64 i14)) rfl ?_
              refine step (v := .d (.bool (decide (i14 < 2)))) rfl ?_
              exact RunOps.nil' (Norm.mk [0, 1] (by decide) (by decide) (by decide) ⟨.d _, .d _, .d _, .loc 0 _ _ (show 0 < 2 by decide), .ptr 1 _ _ (show 1 < 2 by decide), .d _, .d _, trivial⟩ ⟨⟨show 0 < 2 by decide, _, rfl, .lst _ _ _⟩, ⟨show 1 < 2 by decide, _, rfl, .vars ⟨.d _, .d _, .d _, .d _, .d _, .d _, .d _, .d _, .d _, .d _, .d _, .d _, trivial⟩⟩, trivial⟩)
            refine NWp.condF (t := decide (i14 < 2)) rfl hc19 ?_
            refine NWp.norm (s0 := ⟨tab [(0, .d (.str a0)), (4, .d (.int .i64 r6.1)), (5, .d (.int .i64 i13)), (6, .loc 0 0 l10.length), (7, .ptr 1 0 0)], stab [(0, .lst false (some 12) (List.map eapi_Deed l10)), (1, .var [.d (.int .i64 y15.What), .d (.int .i64 y15.N), .d (.bool y15.Back), .d (.int .u16 y15.P.a0), .d (.int .u16 y15.P.a1), .d (.int .u16 y15.P.a2), .d (.int .u16 y15.P.a3), .d (.int .u16 y15.P.a4), .d (.int .u16 y15.P.a5), .d (.int .u16 y15.P.a6), .d (.int .u16 y15.P.a7), .d (.str y15.Raw)])], 2⟩) (Norm.mk [0, 1] (by decide) (by decide) (by decide) ⟨.d _, .d _, .d _, .loc 0 _ _ (show 0 < 2 by decide), .ptr 1 _ _ (show 1 < 2 by decide), trivial⟩ ⟨⟨show 0 < 2 by decide, _, rfl, .lst _ _ _⟩, ⟨show 1 < 2 by decide, _, rfl, .vars ⟨.d _, .d _, .d _, .d _, .d _, .d _, .d _, .d _, .d _, .d _, .d _, .d _, trivial⟩⟩, trivial⟩) ?_
            refine NWp.exit ?_
            exact And.intro rfl rfl
          · intro r' hq
            subst hq
            exact Option.some.inj h
          rintro ⟨z27, z28⟩ rfl
          obtain ⟨q64, hv, h⟩ := bindE h
          refine NWp.seqS (fun (qq : (Int × api_Deed)) => ⟨tab [(0, .d (.str a0)), (4, .d (.int .i64 r6.1)), (5, .d (.int .i64 qq.1)), (6, .loc 0 0 l10.length), (7, .ptr 1 0 0)], stab [(0, .lst false (some 12) (List.map eapi_Deed l10)), (1, .var [.d (.int .i64 qq.2.What), .d (.int .i64 qq.2.N), .d (.bool qq.2.Back), .d (.int .u16 qq.2.P.a0), .d (.int .u16 qq.2.P.a1), .d (.int .u16 qq.2.P.a2), .d (.int .u16 qq.2.P.a3), .d (.int .u16 qq.2.P.a4), .d (.int .u16 qq.2.P.a5), .d (.int .u16 qq.2.P.a6), .d (.int .u16 qq.2.P.a7), .d (.str qq.2.Raw)])], 2⟩) (xv := q64) (r := xr11) ?_ ?_ ?_
          · replace h := hv
            refine NWp.opsJ ⟨tab [(0, .d (.str a0)), (4, .d (.int .i64 r6.1)), (5, .d (.int .i64 z27)), (6, .loc 0 0 l10.length), (7, .ptr 1 0 0), (62, .d (.int .i64 z28.What))], stab [(0, .lst false (some 12) (List.map eapi_Deed l10)), (1, .var [.d (.int .i64 z28.What), .d (.int .i64 z28.N), .d (.bool z28.Back), .d (.int .u16 z28.P.a0), .d (.int .u16 z28.P.a1), .d (.int .u16 z28.P.a2), .d (.int .u16 z28.P.a3), .d (.int .u16 z28.P.a4), .d (.int .u16 z28.P.a5), .d (.int .u16 z28.P.a6), .d (.int .u16 z28.P.a7), .d (.str z28.Raw)])], 2⟩ ?_ ?_
            · refine step (v := .ptr 1 0 0) rfl ?_
              refine step (v := .d (.int .i64 z28.What)) rfl ?_
              exact RunOps.nil' (Norm.mk [0, 1] (by decide) (by decide) (by decide) ⟨.d _, .d _, .d _, .loc 0 _ _ (show 0 < 2 by decide), .ptr 1 _ _ (show 1 < 2 by decide), .d _, trivial⟩ ⟨⟨show 0 < 2 by decide, _, rfl, .lst _ _ _⟩, ⟨show 1 < 2 by decide, _, rfl, .vars ⟨.d _, .d _, .d _, .d _, .d _, .d _, .d _, .d _, .d _, .d _, .d _, .d _, trivial⟩⟩, trivial⟩)
            refine NWp.block ?_
            refine NWp.opsJ ⟨tab [(0, .d (.str a0)), (4, .d (.int .i64 r6.1)), (5, .d (.int .i64 z27)), (6, .loc 0 0 l10.length), (7, .ptr 1 0 0), (62, .d (.int .i64 z28.What)), (63, .d (.bool (z28.What == 0)))], stab [(0, .lst false (some 12) (List.map eapi_Deed l10)), (1, .var [.d (.int .i64 z28.What), .d (.int .i64 z28.N), .d (.bool z28.Back), .d (.int .u16 z28.P.a0), .d (.int .u16 z28.P.a1), .d (.int .u16 z28.P.a2), .d (.int .u16 z28.P.a3), .d (.int .u16 z28.P.a4), .d (.int .u16 z28.P.a5), .d (.int .u16 z28.P.a6), .d (.int .u16 z28.P.a7), .d (.str z28.Raw)])], 2⟩ ?_ ?_
            · refine step (v := .d (.bool (z28.What == 0))) rfl ?_
              refine step (v := .d (.bool (z28.What == 0))) rfl ?_
              exact RunOps.nil' (Norm.mk [0, 1] (by decide) (by decide) (by decide) ⟨.d _, .d _, .d _, .loc 0 _ _ (show 0 < 2 by decide), .ptr 1 _ _ (show 1 < 2 by decide), .d _, .d _, trivial⟩ ⟨⟨show 0 < 2 by decide, _, rfl, .lst _ _ _⟩, ⟨show 1 < 2 by decide, _, rfl, .vars ⟨.d _, .d _, .d _, .d _, .d _, .d _, .d _, .d _, .d _, .d _, .d _, .d _, trivial⟩⟩, trivial⟩)
            by_cases hc29 : (z28.What == 0) = true
            · replace h := iteT hc29 h
              refine NWp.condT (t := (z28.What == 0)) rfl hc29 ?_
              refine NWp.opsJ ⟨tab [(0, .d (.str a0)), (4, .d (.int .i64 r6.1)), (5, .d (.int .i64 z27)), (6, .loc 0 0 l10.length), (7, .ptr 1 0 0), (11, .d (.int .i64 2))], stab [(0, .lst false (some 12) (List.map eapi_Deed l10)), (1, .var [.d (.int .i64 z28.What), .d (.int .i64 z28.N), .d (.bool z28.Back), .d (.int .u16 z28.P.a0), .d (.int .u16 z28.P.a1), .d (.int .u16 z28.P.a2), .d (.int .u16 z28.P.a3), .d (.int .u16 z28.P.a4), .d (.int .u16 z28.P.a5), .d (.int .u16 z28.P.a6), .d (.int .u16 z28.P.a7), .d (.str z28.Raw)])], 2⟩ ?_ ?_
              · refine step (v := .d (.int .i64 2)) rfl ?_
                exact RunOps.nil' (Norm.mk [0, 1] (by decide) (by decide) (by decide) ⟨.d _, .d _, .d _, .loc 0 _ _ (show 0 < 2 by decide), .ptr 1 _ _ (show 1 < 2 by decide), .d _, trivial⟩ ⟨⟨show 0 < 2 by decide, _, rfl, .lst _ _ _⟩, ⟨show 1 < 2 by decide, _, rfl, .vars ⟨.d _, .d _, .d _, .d _, .d _, .d _, .d _, .d _, .d _, .d _, .d _, .d _, trivial⟩⟩, trivial⟩)
              obtain ⟨q45, hl, h⟩ := bindE h
              refine NWp.block ?_
              refine loop_forR (cntU 8) (fun (i31 : Int) (qq : (Int × api_Deed)) => ⟨tab [(0, .d (.str a0)), (4, .d (.int .i64 r6.1)), (5, .d (.int .i64 qq.1)), (6, .loc 0 0 l10.length), (7, .ptr 1 0 0), (11, .d (.int .i64 i31))], stab [(0, .lst false (some 12) (List.map eapi_Deed l10)), (1, .var [.d (.int .i64 qq.2.What), .d (.int .i64 qq.2.N), .d (.bool qq.2.Back), .d (.int .u16 qq.2.P.a0), .d (.int .u16 qq.2.P.a1), .d (.int .u16 qq.2.P.a2), .d (.int .u16 qq.2.P.a3), .d (.int .u16 qq.2.P.a4), .d (.int .u16 qq.2.P.a5), .d (.int .u16 qq.2.P.a6), .d (.int .u16 qq.2.P.a7), .d (.str qq.2.Raw)])], 2⟩) 5 (fun (qq : (Int × api_Deed)) => ⟨tab [(0, .d (.str a0)), (4, .d (.int .i64 r6.1)), (5, .d (.int .i64 qq.1)), (6, .loc 0 0 l10.length), (7, .ptr 1 0 0)], stab [(0, .lst false (some 12) (List.map eapi_Deed l10)), (1, .var [.d (.int .i64 qq.2.What), .d (.int .i64 qq.2.N), .d (.bool qq.2.Back), .d (.int .u16 qq.2.P.a0), .d (.int .u16 qq.2.P.a1), .d (.int .u16 qq.2.P.a2), .d (.int .u16 qq.2.P.a3), .d (.int .u16 qq.2.P.a4), .d (.int .u16 qq.2.P.a5), .d (.int .u16 qq.2.P.a6), .d (.int .u16 qq.2.P.a7), .d (.str qq.2.Raw)])], 2⟩) Low low_step (r := q64) hl (by unfold Low; omega) ?_ ?_ ?_ ?_
              · rintro i31 ⟨i30, y32⟩ xr37 hinv35 hgo34 h
                show NWp _ _ _ _ _ ⟨tab [(0, .d (.str a0)), (4, .d (.int .i64 r6.1)), (5, .d (.int .i64 i30)), (6, .loc 0 0 l10.length), (7, .ptr 1 0 0), (11, .d (.int .i64 i31))], stab [(0, .lst false (some 12) (List.map eapi_Deed l10)), (1, .var [.d (.int .i64 y32.What), .d (.int .i64 y32.N), .d (.bool y32.Back), .d (.int .u16 y32.P.a0), .d (.int .u16 y32.P.a1), .d (.int .u16 y32.P.a2), .d (.int .u16 y32.P.a3), .d (.int .u16 y32.P.a4), .d (.int .u16 y32.P.a5), .d (.int .u16 y32.P.a6), .d (.int .u16 y32.P.a7), .d (.str y32.Raw)])], 2⟩
                have hc36 : decide (i31 < 8) = true := decide_eq_true hgo34
                refine NWp.seq ?_
                refine NWp.opsJ ⟨tab [(0, .d (.str a0)), (4, .d (.int .i64 r6.1)), (5, .d (.int .i64 i30)), (6, .loc 0 0 l10.length), (7, .ptr 1 0 0), (11, .d (.int .i64 i31)), (66, .d (.bool (decide (i31 < 8))))], stab [(0, .lst false (some 12) (List.map eapi_Deed l10)), (1, .var [.d (.int .i64 y32.What), .d (.int .i64 y32.N), .d (.bool y32.Back), .d (.int .u16 y32.P.a0), .d (.int .u16 y32.P.a1), .d (.int .u16 y32.P.a2), .d (.int .u16 y32.P.a3), .d (.int .u16 y32.P.a4), .d (.int .u16 y32.P.a5), .d (.int .u16 y32.P.a6), .d (.int .u16 y32.P.a7), .d (.str y32.Raw)])], 2⟩ ?_ ?_
                · refine step (v := .d (.int .i64 i31)) rfl ?_
                  refine step (v := .d (.bool (decide (i31 < 8)))) rfl ?_
                  exact RunOps.nil' (Norm.mk [0, 1] (by decide) (by decide) (by decide) ⟨.d _, .d _, .d _, .loc 0 _ _ (show 0 < 2 by decide), .ptr 1 _ _ (show 1 < 2 by decide), .d _, .d _, trivial⟩ ⟨⟨show 0 < 2 by decide, _, rfl, .lst _ _ _⟩, ⟨show 1 < 2 by decide, _, rfl, .vars ⟨.d _, .d _, .d _, .d _, .d _, .d _, .d _, .d _, .d _, .d _, .d _, .d _, trivial⟩⟩, trivial⟩)
                refine NWp.condT (t := decide (i31 < 8)) rfl hc36 ?_
                refine NWp.skip ?_
                refine NWp.seq ?_
                refine NWp.block ?_
                obtain ⟨r38, hr38, h⟩ := bindE h
                refine NWp.opsJ ⟨tab [(0, .d (.str a0)), (4, .d (.int .i64 r6.1)), (6, .loc 0 0 l10.length), (7, .ptr 1 0 0), (11, .d (.int .i64 i31)), (12, .d (.int .i64 r38.1)), (13, .d (.int .i64 r38.2))], stab [(0, .lst false (some 12) (List.map eapi_Deed l10)), (1, .var [.d (.int .i64 y32.What), .d (.int .i64 y32.N), .d (.bool y32.Back), .d (.int .u16 y32.P.a0), .d (.int .u16 y32.P.a1), .d (.int .u16 y32.P.a2), .d (.int .u16 y32.P.a3), .d (.int .u16 y32.P.a4), .d (.int .u16 y32.P.a5), .d (.int .u16 y32.P.a6), .d (.int .u16 y32.P.a7), .d (.str y32.Raw)])], 2⟩ ?_ ?_
                · refine step (v := .d (.str a0)) rfl ?_
                  refine step (v := .d (.int .i64 i30)) rfl ?_
                  refine stepC (r := .tup [.int .i64 r38.1, .int .i64 r38.2]) (ArgsOk.dt (ArgsOk.dt ArgsOk.nil')) (c_ref32_number hr38) ?_
                  refine step (v := .d (.tup [.int .i64 r38.1, .int .i64 r38.2])) rfl ?_
                  refine step (v := .d (.int .i64 r38.1)) rfl ?_
                  refine step (v := .d (.int .i64 r38.2)) rfl ?_
                  refine step (v := .d (.int .i64 r38.1)) rfl ?_
                  refine step (v := .d (.int .i64 r38.2)) rfl ?_
                  exact RunOps.nil' (Norm.mk [0, 1] (by decide) (by decide) (by decide) ⟨.d _, .d _, .loc 0 _ _ (show 0 < 2 by decide), .ptr 1 _ _ (show 1 < 2 by decide), .d _, .d _, .d _, trivial⟩ ⟨⟨show 0 < 2 by decide, _, rfl, .lst _ _ _⟩, ⟨show 1 < 2 by decide, _, rfl, .vars ⟨.d _, .d _, .d _, .d _, .d _, .d _, .d _, .d _, .d _, .d _, .d _, .d _, trivial⟩⟩, trivial⟩)
                refine NWp.seq ?_
                refine NWp.opsJ ⟨tab [(0, .d (.str a0)), (4, .d (.int .i64 r6.1)), (6, .loc 0 0 l10.length), (7, .ptr 1 0 0), (11, .d (.int .i64 i31)), (12, .d (.int .i64 r38.1)), (13, .d (.int .i64 r38.2)), (80, .d (.bool ((decide (r38.2 < 0)) || (decide (r38.1 > 65535)))))], stab [(0, .lst false (some 12) (List.map eapi_Deed l10)), (1, .var [.d (.int .i64 y32.What), .d (.int .i64 y32.N), .d (.bool y32.Back), .d (.int .u16 y32.P.a0), .d (.int .u16 y32.P.a1), .d (.int .u16 y32.P.a2), .d (.int .u16 y32.P.a3), .d (.int .u16 y32.P.a4), .d (.int .u16 y32.P.a5), .d (.int .u16 y32.P.a6), .d (.int .u16 y32.P.a7), .d (.str y32.Raw)])], 2⟩ ?_ ?_
                · refine step (v := .d (.int .i64 r38.2)) rfl ?_
                  refine step (v := .d (.bool (decide (r38.2 < 0)))) rfl ?_
                  refine step (v := .d (.bool (decide (r38.2 < 0)))) rfl ?_
                  by_cases hg39 : decide (r38.2 < 0) = true
                  · refine stepX (c := decide (r38.2 < 0)) rfl (by rw [hg39]; decide) ?_
                    refine stepX (c := decide (r38.2 < 0)) rfl (by rw [hg39]; decide) ?_
                    refine step (v := .d (.bool true)) (st_pickT (b := decide (r38.2 < 0)) rfl hg39 rfl) ?_
                    exact RunOps.nil' (Norm.mk [0, 1] (by decide) (by decide) (by decide) ⟨.d _, .d _, .loc 0 _ _ (show 0 < 2 by decide), .ptr 1 _ _ (show 1 < 2 by decide), .d _, .d _, .d _, .eq (by simp [hg39]), trivial⟩ ⟨⟨show 0 < 2 by decide, _, rfl, .lst _ _ _⟩, ⟨show 1 < 2 by decide, _, rfl, .vars ⟨.d _, .d _, .d _, .d _, .d _, .d _, .d _, .d _, .d _, .d _, .d _, .d _, trivial⟩⟩, trivial⟩)
                  · refine stepG (c := decide (r38.2 < 0)) rfl (Bool.eq_false_iff.2 hg39) ?_
                    refine step (v := .d (.int .i64 r38.1)) rfl ?_
                    refine stepG (c := decide (r38.2 < 0)) rfl (Bool.eq_false_iff.2 hg39) ?_
                    refine step (v := .d (.bool (decide (r38.1 > 65535)))) rfl ?_
                    refine step (v := .d (.bool (decide (r38.1 > 65535)))) (st_pickF (b := decide (r38.2 < 0)) rfl hg39 rfl) ?_
                    exact RunOps.nil' (Norm.mk [0, 1] (by decide) (by decide) (by decide) ⟨.d _, .d _, .loc 0 _ _ (show 0 < 2 by decide), .ptr 1 _ _ (show 1 < 2 by decide), .d _, .d _, .d _, .eq (by simp [hg39]), trivial⟩ ⟨⟨show 0 < 2 by decide, _, rfl, .lst _ _ _⟩, ⟨show 1 < 2 by decide, _, rfl, .vars ⟨.d _, .d _, .d _, .d _, .d _, .d _, .d _, .d _, .d _, .d _, .d _, .d _, trivial⟩⟩, trivial⟩)
                by_cases hc40 : ((decide (r38.2 < 0)) || (decide (r38.1 > 65535))) = true
                · replace h := iteT hc40 h
                  refine NWp.condT (t := ((decide (r38.2 < 0)) || (decide (r38.1 > 65535)))) rfl hc40 ?_
                  refine NWp.opsJ ⟨tab [(2, .d (eL (some 12) eapi_Deed ([] : List api_Deed))), (3, .d (.bool false))], stab [], 0⟩ ?_ ?_
                  · refine step (v := .d (eL (some 12) eapi_Deed ([] : List api_Deed))) rfl ?_
                    refine step (v := .d (.bool false)) rfl ?_
                    exact RunOps.nil' (Norm.mk [] (by decide) (by decide) (by decide) ⟨.d _, .d _, trivial⟩ trivial)
                  obtain ⟨r41, kr41, hr⟩ := mapE (o := some (Sum.inr (Br.ret (([] : List api_Deed), false)))) (g := Br.ret) h
                  subst hr
                  have h := kr41
                  obtain ⟨r42, kr42, hr⟩ := mapE (o := some (Br.ret (([] : List api_Deed), false))) (g := Sum.inr) h
                  subst hr
                  have h := kr42
                  obtain ⟨r43, kr43, hr⟩ := mapE (o := some (([] : List api_Deed), false)) (g := Br.ret) h
                  subst hr
                  have h := kr43
                  have hh := Option.some.inj h
                  subst hh
                  refine NWp.ret ?_
                  refine And.intro (fun hn => nomatch hn) ?_
                  intro hq
                  have hq := hq.symm
                  subst hq
                  refine And.intro (fun hn => nomatch hn) ?_
                  intro hq
                  have hq := hq.symm
                  subst hq
                  refine And.intro (fun hn => nomatch hn) ?_
                  intro hq
                  have hq := hq.symm
                  subst hq
                  show FQ _ _ _ _
                  exact FQ.mkT (.inr rfl) (res_t (v := .d (eL (some 12) eapi_Deed ([] : List api_Deed))) rfl (res_t (v := .d (.bool false)) rfl rfl)) (RV.d (RV.d trivial))
                · replace h := iteF hc40 h
                  refine NWp.condF (t := ((decide (r38.2 < 0)) || (decide (r38.1 > 65535)))) rfl hc40 ?_
                  refine NWp.skip ?_
                  refine NWp.opsJ ⟨tab [(0, .d (.str a0)), (4, .d (.int .i64 r6.1)), (5, .d (.int .i64 r38.2)), (6, .loc 0 0 l10.length), (7, .ptr 1 0 0), (11, .d (.int .i64 i31)), (12, .d (.int .i64 r38.1))], stab [(0, .lst false (some 12) (List.map eapi_Deed l10)), (1, .var [.d (.int .i64 y32.What), .d (.int .i64 y32.N), .d (.bool y32.Back), .d (.int .u16 y32.P.a0), .d (.int .u16 y32.P.a1), .d (.int .u16 y32.P.a2), .d (.int .u16 y32.P.a3), .d (.int .u16 y32.P.a4), .d (.int .u16 y32.P.a5), .d (.int .u16 y32.P.a6), .d (.int .u16 y32.P.a7), .d (.str y32.Raw)])], 2⟩ ?_ ?_
                  · refine step (v := .d (.int .i64 r38.2)) rfl ?_
                    refine step (v := .d (.int .i64 r38.2)) rfl ?_
                    exact RunOps.nil' (Norm.mk [0, 1] (by decide) (by decide) (by decide) ⟨.d _, .d _, .d _, .loc 0 _ _ (show 0 < 2 by decide), .ptr 1 _ _ (show 1 < 2 by decide), .d _, .d _, trivial⟩ ⟨⟨show 0 < 2 by decide, _, rfl, .lst _ _ _⟩, ⟨show 1 < 2 by decide, _, rfl, .vars ⟨.d _, .d _, .d _, .d _, .d _, .d _, .d _, .d _, .d _, .d _, .d _, .d _, trivial⟩⟩, trivial⟩)
                  obtain ⟨x41, hx41, h⟩ := bindE h
                  obtain ⟨x42, hx42, h⟩ := bindE h
                  refine NWp.opsE ⟨tab [(0, .d (.str a0)), (4, .d (.int .i64 r6.1)), (5, .d (.int .i64 r38.2)), (6, .loc 0 0 l10.length), (7, .ptr 1 0 0), (11, .d (.int .i64 i31))], stab [(0, .lst false (some 12) (List.map eapi_Deed l10)), (1, .var [.d (.int .i64 y32.What), .d (.int .i64 y32.N), .d (.bool y32.Back), .d (.int .u16 x42.a0), .d (.int .u16 x42.a1), .d (.int .u16 x42.a2), .d (.int .u16 x42.a3), .d (.int .u16 x42.a4), .d (.int .u16 x42.a5), .d (.int .u16 x42.a6), .d (.int .u16 x42.a7), .d (.str y32.Raw)])], 2⟩ ?_ ?_
                  · refine step (v := .d (.int .i64 i31)) rfl ?_
                    refine step (v := .d (.int .i64 r38.1)) rfl ?_
                    refine step (v := .d (.int .u16 (IntKind.u16.wrap r38.1))) rfl ?_
                    refine step (v := .ptr 1 0 3) rfl ?_
                    refine step (v := .ptr 1 0 (3 + i31.toNat * 1)) (st_iaddrAP (xs := y32.P.l) hx41 rfl rfl rfl) ?_
                    refine step (v := V.undef) (σ' := (upd (stab [(0, .lst false (some 12) (List.map eapi_Deed l10)), (1, .var [.d (.int .i64 y32.What), .d (.int .i64 y32.N), .d (.bool y32.Back), .d (.int .u16 y32.P.a0), .d (.int .u16 y32.P.a1), .d (.int .u16 y32.P.a2), .d (.int .u16 y32.P.a3), .d (.int .u16 y32.P.a4), .d (.int .u16 y32.P.a5), .d (.int .u16 y32.P.a6), .d (.int .u16 y32.P.a7), .d (.str y32.Raw)])]) 1 (some (.var [.d (.int .i64 y32.What), .d (.int .i64 y32.N), .d (.bool y32.Back), .d (.int .u16 x42.a0), .d (.int .u16 x42.a1), .d (.int .u16 x42.a2), .d (.int .u16 x42.a3), .d (.int .u16 x42.a4), .d (.int .u16 x42.a5), .d (.int .u16 x42.a6), .d (.int .u16 x42.a7), .d (.str y32.Raw)])))) (n' := 2) (st_storeA (e := (D.int .u16)) (xs := y32.P.l) (xs' := x42.l) (pre := [.d (.int .i64 y32.What), .d (.int .i64 y32.N), .d (.bool y32.Back)]) (post := [.d (.str y32.Raw)]) (A8.put_l hx42) rfl rfl rfl rfl rfl rfl) ?_
                    exact RunOps.nil' (Norm.mk [0, 1] (by decide) (by decide) (by decide) ⟨.d _, .d _, .d _, .loc 0 _ _ (show 0 < 2 by decide), .ptr 1 _ _ (show 1 < 2 by decide), .d _, trivial⟩ ⟨⟨show 0 < 2 by decide, _, rfl, .lst _ _ _⟩, ⟨show 1 < 2 by decide, _, rfl, .vars ⟨.d _, .d _, .d _, .d _, .d _, .d _, .d _, .d _, .d _, .d _, .d _, .d _, trivial⟩⟩, trivial⟩)
                  have hh := Option.some.inj h
                  subst hh
                  refine NWp.opsE ⟨tab [(0, .d (.str a0)), (4, .d (.int .i64 r6.1)), (5, .d (.int .i64 r38.2)), (6, .loc 0 0 l10.length), (7, .ptr 1 0 0), (11, .d (.int .i64 (i31 + 1)))], stab [(0, .lst false (some 12) (List.map eapi_Deed l10)), (1, .var [.d (.int .i64 ((api_Deed.mk y32.What y32.N y32.Back x42 y32.Raw).What)), .d (.int .i64 ((api_Deed.mk y32.What y32.N y32.Back x42 y32.Raw).N)), .d (.bool ((api_Deed.mk y32.What y32.N y32.Back x42 y32.Raw).Back)), .d (.int .u16 ((api_Deed.mk y32.What y32.N y32.Back x42 y32.Raw).P.a0)), .d (.int .u16 ((api_Deed.mk y32.What y32.N y32.Back x42 y32.Raw).P.a1)), .d (.int .u16 ((api_Deed.mk y32.What y32.N y32.Back x42 y32.Raw).P.a2)), .d (.int .u16 ((api_Deed.mk y32.What y32.N y32.Back x42 y32.Raw).P.a3)), .d (.int .u16 ((api_Deed.mk y32.What y32.N y32.Back x42 y32.Raw).P.a4)), .d (.int .u16 ((api_Deed.mk y32.What y32.N y32.Back x42 y32.Raw).P.a5)), .d (.int .u16 ((api_Deed.mk y32.What y32.N y32.Back x42 y32.Raw).P.a6)), .d (.int .u16 ((api_Deed.mk y32.What y32.N y32.Back x42 y32.Raw).P.a7)), .d (.str ((api_Deed.mk y32.What y32.N y32.Back x42 y32.Raw).Raw))])], 2⟩ ?_ ?_
                  · refine step (v := .d (.int .i64 i31)) rfl ?_
                    refine step (v := .d (.int .i64 (i31 + 1))) (st_inc (inc_ok hinv35 hgo34 (by decide)) rfl rfl) ?_
                    refine step (v := .d (.int .i64 (i31 + 1))) rfl ?_
                    exact RunOps.nil' (Norm.mk [0, 1] (by decide) (by decide) (by decide) ⟨.d _, .d _, .d _, .loc 0 _ _ (show 0 < 2 by decide), .ptr 1 _ _ (show 1 < 2 by decide), .d _, trivial⟩ ⟨⟨show 0 < 2 by decide, _, rfl, .lst _ _ _⟩, ⟨show 1 < 2 by decide, _, rfl, .vars ⟨.d _, .d _, .d _, .d _, .d _, .d _, .d _, .d _, .d _, .d _, .d _, .d _, trivial⟩⟩, trivial⟩)
                  exact And.intro rfl rfl
              · rintro i31 ⟨i30, y32⟩ hinv35 hgo34
                show NWp _ _ _ _ _ ⟨tab [(0, .d (.str a0)), (4, .d (.int .i64 r6.1)), (5, .d (.int .i64 i30)), (6, .loc 0 0 l10.length), (7, .ptr 1 0 0), (11, .d (.int .i64 i31))], stab [(0, .lst false (some 12) (List.map eapi_Deed l10)), (1, .var [.d (.int .i64 y32.What), .d (.int .i64 y32.N), .d (.bool y32.Back), .d (.int .u16 y32.P.a0), .d (.int .u16 y32.P.a1), .d (.int .u16 y32.P.a2), .d (.int .u16 y32.P.a3), .d (.int .u16 y32.P.a4), .d (.int .u16 y32.P.a5), .d (.int .u16 y32.P.a6), .d (.int .u16 y32.P.a7), .d (.str y32.Raw)])], 2⟩
                have hc36 : ¬ (decide (i31 < 8) = true) := fun hq => hgo34 (of_decide_eq_true hq)
                refine NWp.seq ?_
                refine NWp.opsJ ⟨tab [(0, .d (.str a0)), (4, .d (.int .i64 r6.1)), (5, .d (.int .i64 i30)), (6, .loc 0 0 l10.length), (7, .ptr 1 0 0), (11, .d (.int .i64 i31)), (66, .d (.bool (decide (i31 < 8))))], stab [(0, .lst false (some 12) (List.map eapi_Deed l10)), (1, .var [.d (.int .i64 y32.What), .d (.int .i64 y32.N), .d (.bool y32.Back), .d (.int .u16 y32.P.a0), .d (.int .u16 y32.P.a1), .d (.int .u16 y32.P.a2), .d (.int .u16 y32.P.a3), .d (.int .u16 y32.P.a4), .d (.int .u16 y32.P.a5), .d (.int .u16 y32.P.a6), .d (.int .u16 y32.P.a7), .d (.str y32.Raw)])], 2⟩ ?_ ?_
                · refine step (v := .d (.int .i64 i31)) rfl ?_
                  refine step (v := .d (.bool (decide (i31 < 8)))) rfl ?_
                  exact RunOps.nil' (Norm.mk [0, 1] (by decide) (by decide) (by decide) ⟨.d _, .d _, .d _, .loc 0 _ _ (show 0 < 2 by decide), .ptr 1 _ _ (show 1 < 2 by decide), .d _, .d _, trivial⟩ ⟨⟨show 0 < 2 by decide, _, rfl, .lst _ _ _⟩, ⟨show 1 < 2 by decide, _, rfl, .vars ⟨.d _, .d _, .d _, .d _, .d _, .d _, .d _, .d _, .d _, .d _, .d _, .d _, trivial⟩⟩, trivial⟩)
                refine NWp.condF (t := decide (i31 < 8)) rfl hc36 ?_
                refine NWp.norm (s0 := ⟨tab [(0, .d (.str a0)), (4, .d (.int .i64 r6.1)), (5, .d (.int .i64 i30)), (6, .loc 0 0 l10.length), (7, .ptr 1 0 0)], stab [(0, .lst false (some 12) (List.map eapi_Deed l10)), (1, .var [.d (.int .i64 y32.What), .d (.int .i64 y32.N), .d (.bool y32.Back), .d (.int .u16 y32.P.a0), .d (.int .u16 y32.P.a1), .d (.int .u16 y32.P.a2), .d (.int .u16 y32.P.a3), .d (.int .u16 y32.P.a4), .d (.int .u16 y32.P.a5), .d (.int .u16 y32.P.a6), .d (.int .u16 y32.P.a7), .d (.str y32.Raw)])], 2⟩) (Norm.mk [0, 1] (by decide) (by decide) (by decide) ⟨.d _, .d _, .d _, .loc 0 _ _ (show 0 < 2 by decide), .ptr 1 _ _ (show 1 < 2 by decide), trivial⟩ ⟨⟨show 0 < 2 by decide, _, rfl, .lst _ _ _⟩, ⟨show 1 < 2 by decide, _, rfl, .vars ⟨.d _, .d _, .d _, .d _, .d _, .d _, .d _, .d _, .d _, .d _, .d _, .d _, trivial⟩⟩, trivial⟩) ?_
                refine NWp.exit ?_
                exact And.intro rfl rfl
              · intro r' hq
                subst hq
                exact Option.some.inj h
              rintro ⟨z43, z44⟩ rfl
              have hh := Option.some.inj h
              subst hh
              exact And.intro rfl rfl
            · replace h := iteF hc29 h
              refine NWp.condF (t := (z28.What == 0)) rfl hc29 ?_
              refine NWp.opsJ ⟨tab [(0, .d (.str a0)), (4, .d (.int .i64 r6.1)), (5, .d (.int .i64 z27)), (6, .loc 0 0 l10.length), (7, .ptr 1 0 0), (62, .d (.int .i64 z28.What)), (87, .d (.bool (z28.What == 1)))], stab [(0, .lst false (some 12) (List.map eapi_Deed l10)), (1, .var [.d (.int .i64 z28.What), .d (.int .i64 z28.N), .d (.bool z28.Back), .d (.int .u16 z28.P.a0), .d (.int .u16 z28.P.a1), .d (.int .u16 z28.P.a2), .d (.int .u16 z28.P.a3), .d (.int .u16 z28.P.a4), .d (.int .u16 z28.P.a5), .d (.int .u16 z28.P.a6), .d (.int .u16 z28.P.a7), .d (.str z28.Raw)])], 2⟩ ?_ ?_
              · refine step (v := .d (.bool (z28.What == 1))) rfl ?_
                refine step (v := .d (.bool (z28.What == 1))) rfl ?_
                exact RunOps.nil' (Norm.mk [0, 1] (by decide) (by decide) (by decide) ⟨.d _, .d _, .d _, .loc 0 _ _ (show 0 < 2 by decide), .ptr 1 _ _ (show 1 < 2 by decide), .d _, .d _, trivial⟩ ⟨⟨show 0 < 2 by decide, _, rfl, .lst _ _ _⟩, ⟨show 1 < 2 by decide, _, rfl, .vars ⟨.d _, .d _, .d _, .d _, .d _, .d _, .d _, .d _, .d _, .d _, .d _, .d _, trivial⟩⟩, trivial⟩)
              by_cases hc46 : (z28.What == 1) = true
              · replace h := iteT hc46 h
                refine NWp.condT (t := (z28.What == 1)) rfl hc46 ?_
                obtain ⟨r47, hr47, h⟩ := bindE h
                refine NWp.opsJ ⟨tab [(0, .d (.str a0)), (4, .d (.int .i64 r6.1)), (6, .loc 0 0 l10.length), (7, .ptr 1 0 0), (14, .d (.int .i64 r47.1)), (15, .d (.int .i64 r47.2))], stab [(0, .lst false (some 12) (List.map eapi_Deed l10)), (1, .var [.d (.int .i64 z28.What), .d (.int .i64 z28.N), .d (.bool z28.Back), .d (.int .u16 z28.P.a0), .d (.int .u16 z28.P.a1), .d (.int .u16 z28.P.a2), .d (.int .u16 z28.P.a3), .d (.int .u16 z28.P.a4), .d (.int .u16 z28.P.a5), .d (.int .u16 z28.P.a6), .d (.int .u16 z28.P.a7), .d (.str z28.Raw)])], 2⟩ ?_ ?_
                · refine step (v := .d (.str a0)) rfl ?_
                  refine step (v := .d (.int .i64 z27)) rfl ?_
                  refine stepC (r := .tup [.int .i64 r47.1, .int .i64 r47.2]) (ArgsOk.dt (ArgsOk.dt ArgsOk.nil')) (c_ref32_number hr47) ?_
                  refine step (v := .d (.tup [.int .i64 r47.1, .int .i64 r47.2])) rfl ?_
                  refine step (v := .d (.int .i64 r47.1)) rfl ?_
                  refine step (v := .d (.int .i64 r47.2)) rfl ?_
                  refine step (v := .d (.int .i64 r47.1)) rfl ?_
                  refine step (v := .d (.int .i64 r47.2)) rfl ?_
                  exact RunOps.nil' (Norm.mk [0, 1] (by decide) (by decide) (by decide) ⟨.d _, .d _, .loc 0 _ _ (show 0 < 2 by decide), .ptr 1 _ _ (show 1 < 2 by decide), .d _, .d _, trivial⟩ ⟨⟨show 0 < 2 by decide, _, rfl, .lst _ _ _⟩, ⟨show 1 < 2 by decide, _, rfl, .vars ⟨.d _, .d _, .d _, .d _, .d _, .d _, .d _, .d _, .d _, .d _, .d _, .d _, trivial⟩⟩, trivial⟩)
                refine NWp.seq ?_
                refine NWp.opsJ ⟨tab [(0, .d (.str a0)), (4, .d (.int .i64 r6.1)), (6, .loc 0 0 l10.length), (7, .ptr 1 0 0), (14, .d (.int .i64 r47.1)), (15, .d (.int .i64 r47.2)), (108, .d (.bool ((decide (r47.2 < 0)) || ((decide (r47.1 > 1000)) || (decide ((IntKind.i64.wrap (r47.2 + r47.1)) > (a0.size : Int)))))))], stab [(0, .lst false (some 12) (List.map eapi_Deed l10)), (1, .var [.d (.int .i64 z28.What), .d (.int .i64 z28.N), .d (.bool z28.Back), .d (.int .u16 z28.P.a0), .d (.int .u16 z28.P.a1), .d (.int .u16 z28.P.a2), .d (.int .u16 z28.P.a3), .d (.int .u16 z28.P.a4), .d (.int .u16 z28.P.a5), .d (.int .u16 z28.P.a6), .d (.int .u16 z28.P.a7), .d (.str z28.Raw)])], 2⟩ ?_ ?_
                · refine step (v := .d (.int .i64 r47.2)) rfl ?_
                  refine step (v := .d (.bool (decide (r47.2 < 0)))) rfl ?_
                  refine step (v := .d (.bool (decide (r47.2 < 0)))) rfl ?_
                  by_cases hg48 : decide (r47.2 < 0) = true
                  · refine stepX (c := decide (r47.2 < 0)) rfl (by rw [hg48]; decide) ?_
                    refine stepX (c := decide (r47.2 < 0)) rfl (by rw [hg48]; decide) ?_
                    refine step (v := .d (.bool true)) (st_pickT (b := decide (r47.2 < 0)) rfl hg48 rfl) ?_
                    refine step (v := .d (.bool true)) rfl ?_
                    refine stepX (c := true) rfl (by decide) ?_
                    refine stepX (c := true) rfl (by decide) ?_
                    refine stepX (c := true) rfl (by decide) ?_
                    refine stepX (c := true) rfl (by decide) ?_
                    refine stepX (c := true) rfl (by decide) ?_
                    refine stepX (c := true) rfl (by decide) ?_
                    refine step (v := .d (.bool true)) (st_pickT (b := true) rfl rfl rfl) ?_
                    exact RunOps.nil' (Norm.mk [0, 1] (by decide) (by decide) (by decide) ⟨.d _, .d _, .loc 0 _ _ (show 0 < 2 by decide), .ptr 1 _ _ (show 1 < 2 by decide), .d _, .d _, .eq (by simp [hg48]), trivial⟩ ⟨⟨show 0 < 2 by decide, _, rfl, .lst _ _ _⟩, ⟨show 1 < 2 by decide, _, rfl, .vars ⟨.d _, .d _, .d _, .d _, .d _, .d _, .d _, .d _, .d _, .d _, .d _, .d _, trivial⟩⟩, trivial⟩)
                  · refine stepG (c := decide (r47.2 < 0)) rfl (Bool.eq_false_iff.2 hg48) ?_
                    refine step (v := .d (.int .i64 r47.1)) rfl ?_
                    refine stepG (c := decide (r47.2 < 0)) rfl (Bool.eq_false_iff.2 hg48) ?_
                    refine step (v := .d (.bool (decide (r47.1 > 1000)))) rfl ?_
                    refine step (v := .d (.bool (decide (r47.1 > 1000)))) (st_pickF (b := decide (r47.2 < 0)) rfl hg48 rfl) ?_
                    refine step (v := .d (.bool (decide (r47.1 > 1000)))) rfl ?_
                    by_cases hg49 : decide (r47.1 > 1000) = true
                    · refine stepX (c := decide (r47.1 > 1000)) rfl (by rw [hg49]; decide) ?_
                      refine stepX (c := decide (r47.1 > 1000)) rfl (by rw [hg49]; decide) ?_
                      refine stepX (c := decide (r47.1 > 1000)) rfl (by rw [hg49]; decide) ?_
                      refine stepX (c := decide (r47.1 > 1000)) rfl (by rw [hg49]; decide) ?_
                      refine stepX (c := decide (r47.1 > 1000)) rfl (by rw [hg49]; decide) ?_
                      refine stepX (c := decide (r47.1 > 1000)) rfl (by rw [hg49]; decide) ?_
                      refine step (v := .d (.bool true)) (st_pickT (b := decide (r47.1 > 1000)) rfl hg49 rfl) ?_
                      exact RunOps.nil' (Norm.mk [0, 1] (by decide) (by decide) (by decide) ⟨.d _, .d _, .loc 0 _ _ (show 0 < 2 by decide), .ptr 1 _ _ (show 1 < 2 by decide), .d _, .d _, .eq (by simp [hg48, hg49]), trivial⟩ ⟨⟨show 0 < 2 by decide, _, rfl, .lst _ _ _⟩, ⟨show 1 < 2 by decide, _, rfl, .vars ⟨.d _, .d _, .d _, .d _, .d _, .d _, .d _, .d _, .d _, .d _, .d _, .d _, trivial⟩⟩, trivial⟩)
                    · refine stepG (c := decide (r47.1 > 1000)) rfl (Bool.eq_false_iff.2 hg49) ?_
                      refine step (v := .d (.int .i64 r47.2)) rfl ?_
                      refine stepG (c := decide (r47.1 > 1000)) rfl (Bool.eq_false_iff.2 hg49) ?_
                      refine step (v := .d (.int .i64 r47.1)) rfl ?_
                      refine stepG (c := decide (r47.1 > 1000)) rfl (Bool.eq_false_iff.2 hg49) ?_
                      refine step (v := .d (.int .i64 (IntKind.i64.wrap (r47.2 + r47.1)))) rfl ?_
                      refine stepG (c := decide (r47.1 > 1000)) rfl (Bool.eq_false_iff.2 hg49) ?_
                      refine step (v := .d (.str a0)) rfl ?_
                      refine stepG (c := decide (r47.1 > 1000)) rfl (Bool.eq_false_iff.2 hg49) ?_
                      refine step (v := .d (.int .i64 (a0.size : Int))) rfl ?_
                      refine stepG (c := decide (r47.1 > 1000)) rfl (Bool.eq_false_iff.2 hg49) ?_
                      refine step (v := .d (.bool (decide ((IntKind.i64.wrap (r47.2 + r47.1)) > (a0.size : Int))))) rfl ?_
                      refine step (v := .d (.bool (decide ((IntKind.i64.wrap (r47.2 + r47.1)) > (a0.size : Int))))) (st_pickF (b := decide (r47.1 > 1000)) rfl hg49 rfl) ?_
                      exact RunOps.nil' (Norm.mk [0, 1] (by decide) (by decide) (by decide) ⟨.d _, .d _, .loc 0 _ _ (show 0 < 2 by decide), .ptr 1 _ _ (show 1 < 2 by decide), .d _, .d _, .eq (by simp [hg48, hg49]), trivial⟩ ⟨⟨show 0 < 2 by decide, _, rfl, .lst _ _ _⟩, ⟨show 1 < 2 by decide, _, rfl, .vars ⟨.d _, .d _, .d _, .d _, .d _, .d _, .d _, .d _, .d _, .d _, .d _, .d _, trivial⟩⟩, trivial⟩)
                by_cases hc50 : ((decide (r47.2 < 0)) || ((decide (r47.1 > 1000)) || (decide ((IntKind.i64.wrap (r47.2 + r47.1)) > (a0.size : Int))))) = true
                · replace h := iteT hc50 h
                  refine NWp.condT (t := ((decide (r47.2 < 0)) || ((decide (r47.1 > 1000)) || (decide ((IntKind.i64.wrap (r47.2 + r47.1)) > (a0.size : Int)))))) rfl hc50 ?_
                  refine NWp.opsJ ⟨tab [(2, .d (eL (some 12) eapi_Deed ([] : List api_Deed))), (3, .d (.bool false))], stab [], 0⟩ ?_ ?_
                  · refine step (v := .d (eL (some 12) eapi_Deed ([] : List api_Deed))) rfl ?_
                    refine step (v := .d (.bool false)) rfl ?_
                    exact RunOps.nil' (Norm.mk [] (by decide) (by decide) (by decide) ⟨.d _, .d _, trivial⟩ trivial)
                  obtain ⟨r51, kr51, hr⟩ := mapE (o := some (Br.ret (([] : List api_Deed), false))) (g := Sum.inr) h
                  subst hr
                  have h := kr51
                  obtain ⟨r52, kr52, hr⟩ := mapE (o := some (([] : List api_Deed), false)) (g := Br.ret) h
                  subst hr
                  have h := kr52
                  have hh := Option.some.inj h
                  subst hh
                  refine NWp.ret ?_
                  refine And.intro (fun hn => nomatch hn) ?_
                  intro hq
                  have hq := hq.symm
                  subst hq
                  refine And.intro (fun hn => nomatch hn) ?_
                  intro hq
                  have hq := hq.symm
                  subst hq
                  show FQ _ _ _ _
                  exact FQ.mkT (.inr rfl) (res_t (v := .d (eL (some 12) eapi_Deed ([] : List api_Deed))) rfl (res_t (v := .d (.bool false)) rfl rfl)) (RV.d (RV.d trivial))
                · replace h := iteF hc50 h
                  refine NWp.condF (t := ((decide (r47.2 < 0)) || ((decide (r47.1 > 1000)) || (decide ((IntKind.i64.wrap (r47.2 + r47.1)) > (a0.size : Int)))))) rfl hc50 ?_
                  refine NWp.skip ?_
                  obtain ⟨s51, hs51, h⟩ := bindE h
                  refine NWp.opsJ ⟨tab [(0, .d (.str a0)), (4, .d (.int .i64 r6.1)), (6, .loc 0 0 l10.length), (7, .ptr 1 0 0), (14, .d (.int .i64 r47.1)), (15, .d (.int .i64 r47.2))], stab [(0, .lst false (some 12) (List.map eapi_Deed l10)), (1, .var [.d (.int .i64 z28.What), .d (.int .i64 z28.N), .d (.bool z28.Back), .d (.int .u16 z28.P.a0), .d (.int .u16 z28.P.a1), .d (.int .u16 z28.P.a2), .d (.int .u16 z28.P.a3), .d (.int .u16 z28.P.a4), .d (.int .u16 z28.P.a5), .d (.int .u16 z28.P.a6), .d (.int .u16 z28.P.a7), .d (.str s51)])], 2⟩ ?_ ?_
                  · refine step (v := .d (.str a0)) rfl ?_
                    refine step (v := .d (.int .i64 r47.2)) rfl ?_
                    refine step (v := .d (.int .i64 r47.2)) rfl ?_
                    refine step (v := .d (.int .i64 r47.1)) rfl ?_
                    refine step (v := .d (.int .i64 (IntKind.i64.wrap (r47.2 + r47.1)))) rfl ?_
                    refine step (v := .d (.str s51)) (st_sstr hs51 rfl ⟨_, rfl⟩ ⟨_, rfl⟩) ?_
                    refine step (v := .ptr 1 0 11) rfl ?_
                    refine step (v := V.undef) (σ' := (upd (stab [(0, .lst false (some 12) (List.map eapi_Deed l10)), (1, .var [.d (.int .i64 z28.What), .d (.int .i64 z28.N), .d (.bool z28.Back), .d (.int .u16 z28.P.a0), .d (.int .u16 z28.P.a1), .d (.int .u16 z28.P.a2), .d (.int .u16 z28.P.a3), .d (.int .u16 z28.P.a4), .d (.int .u16 z28.P.a5), .d (.int .u16 z28.P.a6), .d (.int .u16 z28.P.a7), .d (.str z28.Raw)])]) 1 (some (.var [.d (.int .i64 z28.What), .d (.int .i64 z28.N), .d (.bool z28.Back), .d (.int .u16 z28.P.a0), .d (.int .u16 z28.P.a1), .d (.int .u16 z28.P.a2), .d (.int .u16 z28.P.a3), .d (.int .u16 z28.P.a4), .d (.int .u16 z28.P.a5), .d (.int .u16 z28.P.a6), .d (.int .u16 z28.P.a7), .d (.str s51)])))) (n' := 2) rfl ?_
                    exact RunOps.nil' (Norm.mk [0, 1] (by decide) (by decide) (by decide) ⟨.d _, .d _, .loc 0 _ _ (show 0 < 2 by decide), .ptr 1 _ _ (show 1 < 2 by decide), .d _, .d _, trivial⟩ ⟨⟨show 0 < 2 by decide, _, rfl, .lst _ _ _⟩, ⟨show 1 < 2 by decide, _, rfl, .vars ⟨.d _, .d _, .d _, .d _, .d _, .d _, .d _, .d _, .d _, .d _, .d _, .d _, trivial⟩⟩, trivial⟩)
                  have hh := Option.some.inj h
                  subst hh
                  refine NWp.opsE ⟨tab [(0, .d (.str a0)), (4, .d (.int .i64 r6.1)), (5, .d (.int .i64 (IntKind.i64.wrap (r47.2 + r47.1)))), (6, .loc 0 0 l10.length), (7, .ptr 1 0 0)], stab [(0, .lst false (some 12) (List.map eapi_Deed l10)), (1, .var [.d (.int .i64 ((api_Deed.mk z28.What z28.N z28.Back z28.P s51).What)), .d (.int .i64 ((api_Deed.mk z28.What z28.N z28.Back z28.P s51).N)), .d (.bool ((api_Deed.mk z28.What z28.N z28.Back z28.P s51).Back)), .d (.int .u16 ((api_Deed.mk z28.What z28.N z28.Back z28.P s51).P.a0)), .d (.int .u16 ((api_Deed.mk z28.What z28.N z28.Back z28.P s51).P.a1)), .d (.int .u16 ((api_Deed.mk z28.What z28.N z28.Back z28.P s51).P.a2)), .d (.int .u16 ((api_Deed.mk z28.What z28.N z28.Back z28.P s51).P.a3)), .d (.int .u16 ((api_Deed.mk z28.What z28.N z28.Back z28.P s51).P.a4)), .d (.int .u16 ((api_Deed.mk z28.What z28.N z28.Back z28.P s51).P.a5)), .d (.int .u16 ((api_Deed.mk z28.What z28.N z28.Back z28.P s51).P.a6)), .d (.int .u16 ((api_Deed.mk z28.What z28.N z28.Back z28.P s51).P.a7)), .d (.str ((api_Deed.mk z28.What z28.N z28.Back z28.P s51).Raw))])], 2⟩ ?_ ?_
                  · refine step (v := .d (.int .i64 r47.2)) rfl ?_
                    refine step (v := .d (.int .i64 r47.1)) rfl ?_
                    refine step (v := .d (.int .i64 (IntKind.i64.wrap (r47.2 + r47.1)))) rfl ?_
                    refine step (v := .d (.int .i64 (IntKind.i64.wrap (r47.2 + r47.1)))) rfl ?_
                    exact RunOps.nil' (Norm.mk [0, 1] (by decide) (by decide) (by decide) ⟨.d _, .d _, .d _, .loc 0 _ _ (show 0 < 2 by decide), .ptr 1 _ _ (show 1 < 2 by decide), trivial⟩ ⟨⟨show 0 < 2 by decide, _, rfl, .lst _ _ _⟩, ⟨show 1 < 2 by decide, _, rfl, .vars ⟨.d _, .d _, .d _, .d _, .d _, .d _, .d _, .d _, .d _, .d _, .d _, .d _, trivial⟩⟩, trivial⟩)
                  exact And.intro rfl rfl
              · replace h := iteF hc46 h
                refine NWp.condF (t := (z28.What == 1)) rfl hc46 ?_
                obtain ⟨y53, hv, h⟩ := bindE h
                refine NWp.seqN ⟨tab [(0, .d (.str a0)), (4, .d (.int .i64 r6.1)), (5, .d (.int .i64 z27)), (6, .loc 0 0 l10.length), (7, .ptr 1 0 0), (119, .d (.bool y53))], stab [(0, .lst false (some 12) (List.map eapi_Deed l10)), (1, .var [.d (.int .i64 z28.What), .d (.int .i64 z28.N), .d (.bool z28.Back), .d (.int .u16 z28.P.a0), .d (.int .u16 z28.P.a1), .d (.int .u16 z28.P.a2), .d (.int .u16 z28.P.a3), .d (.int .u16 z28.P.a4), .d (.int .u16 z28.P.a5), .d (.int .u16 z28.P.a6), .d (.int .u16 z28.P.a7), .d (.str z28.Raw)])], 2⟩ ?_ ?_
                · replace h := hv
                  refine NWp.opsJ ⟨tab [(0, .d (.str a0)), (4, .d (.int .i64 r6.1)), (5, .d (.int .i64 z27)), (6, .loc 0 0 l10.length), (7, .ptr 1 0 0), (62, .d (.int .i64 z28.What)), (119, .d (.bool (z28.What == 3)))], stab [(0, .lst false (some 12) (List.map eapi_Deed l10)), (1, .var [.d (.int .i64 z28.What), .d (.int .i64 z28.N), .d (.bool z28.Back), .d (.int .u16 z28.P.a0), .d (.int .u16 z28.P.a1), .d (.int .u16 z28.P.a2), .d (.int .u16 z28.P.a3), .d (.int .u16 z28.P.a4), .d (.int .u16 z28.P.a5), .d (.int .u16 z28.P.a6), .d (.int .u16 z28.P.a7), .d (.str z28.Raw)])], 2⟩ ?_ ?_
                  · refine step (v := .d (.bool (z28.What == 3))) rfl ?_
                    refine step (v := .d (.bool (z28.What == 3))) rfl ?_
                    exact RunOps.nil' (Norm.mk [0, 1] (by decide) (by decide) (by decide) ⟨.d _, .d _, .d _, .loc 0 _ _ (show 0 < 2 by decide), .ptr 1 _ _ (show 1 < 2 by decide), .d _, .d _, trivial⟩ ⟨⟨show 0 < 2 by decide, _, rfl, .lst _ _ _⟩, ⟨show 1 < 2 by decide, _, rfl, .vars ⟨.d _, .d _, .d _, .d _, .d _, .d _, .d _, .d _, .d _, .d _, .d _, .d _, trivial⟩⟩, trivial⟩)
                  by_cases hc52 : (z28.What == 3) = true
                  · replace h := iteT hc52 h
                    refine NWp.condT (t := (z28.What == 3)) rfl hc52 ?_
                    have hh := Option.some.inj h
                    subst hh
                    refine NWp.norm (s0 := ⟨tab [(0, .d (.str a0)), (4, .d (.int .i64 r6.1)), (5, .d (.int .i64 z27)), (6, .loc 0 0 l10.length), (7, .ptr 1 0 0), (119, .d (.bool (z28.What == 3)))], stab [(0, .lst false (some 12) (List.map eapi_Deed l10)), (1, .var [.d (.int .i64 z28.What), .d (.int .i64 z28.N), .d (.bool z28.Back), .d (.int .u16 z28.P.a0), .d (.int .u16 z28.P.a1), .d (.int .u16 z28.P.a2), .d (.int .u16 z28.P.a3), .d (.int .u16 z28.P.a4), .d (.int .u16 z28.P.a5), .d (.int .u16 z28.P.a6), .d (.int .u16 z28.P.a7), .d (.str z28.Raw)])], 2⟩) (Norm.mk [0, 1] (by decide) (by decide) (by decide) ⟨.d _, .d _, .d _, .loc 0 _ _ (show 0 < 2 by decide), .ptr 1 _ _ (show 1 < 2 by decide), .d _, trivial⟩ ⟨⟨show 0 < 2 by decide, _, rfl, .lst _ _ _⟩, ⟨show 1 < 2 by decide, _, rfl, .vars ⟨.d _, .d _, .d _, .d _, .d _, .d _, .d _, .d _, .d _, .d _, .d _, .d _, trivial⟩⟩, trivial⟩) ?_
                    refine NWp.skip ?_
                    exact And.intro rfl rfl
                  · replace h := iteF hc52 h
                    refine NWp.condF (t := (z28.What == 3)) rfl hc52 ?_
                    have hh := Option.some.inj h
                    subst hh
                    refine NWp.opsE ⟨tab [(0, .d (.str a0)), (4, .d (.int .i64 r6.1)), (5, .d (.int .i64 z27)), (6, .loc 0 0 l10.length), (7, .ptr 1 0 0), (119, .d (.bool (z28.What == 4)))], stab [(0, .lst false (some 12) (List.map eapi_Deed l10)), (1, .var [.d (.int .i64 z28.What), .d (.int .i64 z28.N), .d (.bool z28.Back), .d (.int .u16 z28.P.a0), .d (.int .u16 z28.P.a1), .d (.int .u16 z28.P.a2), .d (.int .u16 z28.P.a3), .d (.int .u16 z28.P.a4), .d (.int .u16 z28.P.a5), .d (.int .u16 z28.P.a6), .d (.int .u16 z28.P.a7), .d (.str z28.Raw)])], 2⟩ ?_ ?_
                    · refine step (v := .d (.bool (z28.What == 4))) rfl ?_
                      refine step (v := .d (.bool (z28.What == 4))) rfl ?_
                      exact RunOps.nil' (Norm.mk [0, 1] (by decide) (by decide) (by decide) ⟨.d _, .d _, .d _, .loc 0 _ _ (show 0 < 2 by decide), .ptr 1 _ _ (show 1 < 2 by decide), .d _, trivial⟩ ⟨⟨show 0 < 2 by decide, _, rfl, .lst _ _ _⟩, ⟨show 1 < 2 by decide, _, rfl, .vars ⟨.d _, .d _, .d _, .d _, .d _, .d _, .d _, .d _, .d _, .d _, .d _, .d _, trivial⟩⟩, trivial⟩)
                    exact And.intro rfl rfl
                by_cases hc55 : y53 = true
                · replace h := iteT hc55 h
                  refine NWp.condT (t := y53) rfl hc55 ?_
                  refine NWp.seq ?_
                  obtain ⟨y58, hv, h⟩ := bindE h
                  refine NWp.opsJ ⟨tab [(0, .d (.str a0)), (4, .d (.int .i64 r6.1)), (5, .d (.int .i64 z27)), (6, .loc 0 0 l10.length), (7, .ptr 1 0 0), (131, .d (.bool y58))], stab [(0, .lst false (some 12) (List.map eapi_Deed l10)), (1, .var [.d (.int .i64 z28.What), .d (.int .i64 z28.N), .d (.bool z28.Back), .d (.int .u16 z28.P.a0), .d (.int .u16 z28.P.a1), .d (.int .u16 z28.P.a2), .d (.int .u16 z28.P.a3), .d (.int .u16 z28.P.a4), .d (.int .u16 z28.P.a5), .d (.int .u16 z28.P.a6), .d (.int .u16 z28.P.a7), .d (.str z28.Raw)])], 2⟩ ?_ ?_
                  · refine step (v := .d (.int .i64 z27)) rfl ?_
                    refine step (v := .d (.str a0)) rfl ?_
                    refine step (v := .d (.int .i64 (a0.size : Int))) rfl ?_
                    refine step (v := .d (.bool (decide (z27 ≥ (a0.size : Int))))) rfl ?_
                    refine step (v := .d (.bool (decide (z27 ≥ (a0.size : Int))))) rfl ?_
                    by_cases hg56 : decide (z27 ≥ (a0.size : Int)) = true
                    · replace hv := iteT hg56 hv
                      refine stepX (c := decide (z27 ≥ (a0.size : Int))) rfl (by rw [hg56]; decide) ?_
                      refine stepX (c := decide (z27 ≥ (a0.size : Int))) rfl (by rw [hg56]; decide) ?_
                      refine stepX (c := decide (z27 ≥ (a0.size : Int))) rfl (by rw [hg56]; decide) ?_
                      refine stepX (c := decide (z27 ≥ (a0.size : Int))) rfl (by rw [hg56]; decide) ?_
                      refine step (v := .d (.bool true)) (st_pickT (b := decide (z27 ≥ (a0.size : Int))) rfl hg56 rfl) ?_
                      have hh := Option.some.inj hv
                      subst hh
                      exact RunOps.nil' (Norm.mk [0, 1] (by decide) (by decide) (by decide) ⟨.d _, .d _, .d _, .loc 0 _ _ (show 0 < 2 by decide), .ptr 1 _ _ (show 1 < 2 by decide), .d _, trivial⟩ ⟨⟨show 0 < 2 by decide, _, rfl, .lst _ _ _⟩, ⟨show 1 < 2 by decide, _, rfl, .vars ⟨.d _, .d _, .d _, .d _, .d _, .d _, .d _, .d _, .d _, .d _, .d _, .d _, trivial⟩⟩, trivial⟩)
                    · replace hv := iteF hg56 hv
                      obtain ⟨b57, hb57, hv⟩ := bindE hv
                      refine stepG (c := decide (z27 ≥ (a0.size : Int))) rfl (Bool.eq_false_iff.2 hg56) ?_
                      refine step (v := .d (.str a0)) rfl ?_
                      refine stepG (c := decide (z27 ≥ (a0.size : Int))) rfl (Bool.eq_false_iff.2 hg56) ?_
                      refine step (v := .d (.int .i64 z27)) rfl ?_
                      refine stepG (c := decide (z27 ≥ (a0.size : Int))) rfl (Bool.eq_false_iff.2 hg56) ?_
                      refine step (v := .d (.int .u8 b57)) (st_idxS hb57 rfl rfl) ?_
                      refine stepG (c := decide (z27 ≥ (a0.size : Int))) rfl (Bool.eq_false_iff.2 hg56) ?_
                      refine step (v := .d (.bool (decide (b57 > 1)))) rfl ?_
                      refine step (v := .d (.bool (decide (b57 > 1)))) (st_pickF (b := decide (z27 ≥ (a0.size : Int))) rfl hg56 rfl) ?_
                      have hh := Option.some.inj hv
                      subst hh
                      exact RunOps.nil' (Norm.mk [0, 1] (by decide) (by decide) (by decide) ⟨.d _, .d _, .d _, .loc 0 _ _ (show 0 < 2 by decide), .ptr 1 _ _ (show 1 < 2 by decide), .d _, trivial⟩ ⟨⟨show 0 < 2 by decide, _, rfl, .lst _ _ _⟩, ⟨show 1 < 2 by decide, _, rfl, .vars ⟨.d _, .d _, .d _, .d _, .d _, .d _, .d _, .d _, .d _, .d _, .d _, .d _, trivial⟩⟩, trivial⟩)
                  by_cases hc60 : y58 = true
                  · replace h := iteT hc60 h
                    refine NWp.condT (t := y58) rfl hc60 ?_
                    refine NWp.opsJ ⟨tab [(2, .d (eL (some 12) eapi_Deed ([] : List api_Deed))), (3, .d (.bool false))], stab [], 0⟩ ?_ ?_
                    · refine step (v := .d (eL (some 12) eapi_Deed ([] : List api_Deed))) rfl ?_
                      refine step (v := .d (.bool false)) rfl ?_
                      exact RunOps.nil' (Norm.mk [] (by decide) (by decide) (by decide) ⟨.d _, .d _, trivial⟩ trivial)
                    obtain ⟨r61, kr61, hr⟩ := mapE (o := some (Br.ret (([] : List api_Deed), false))) (g := Sum.inr) h
                    subst hr
                    have h := kr61
                    obtain ⟨r62, kr62, hr⟩ := mapE (o := some (([] : List api_Deed), false)) (g := Br.ret) h
                    subst hr
                    have h := kr62
                    have hh := Option.some.inj h
                    subst hh
                    refine NWp.ret ?_
                    refine And.intro (fun hn => nomatch hn) ?_
                    intro hq
                    have hq := hq.symm
                    subst hq
                    refine And.intro (fun hn => nomatch hn) ?_
                    intro hq
                    have hq := hq.symm
                    subst hq
                    show FQ _ _ _ _
                    exact FQ.mkT (.inr rfl) (res_t (v := .d (eL (some 12) eapi_Deed ([] : List api_Deed))) rfl (res_t (v := .d (.bool false)) rfl rfl)) (RV.d (RV.d trivial))
                  · replace h := iteF hc60 h
                    refine NWp.condF (t := y58) rfl hc60 ?_
                    refine NWp.skip ?_
                    obtain ⟨b61, hb61, h⟩ := bindE h
                    refine NWp.opsJ ⟨tab [(0, .d (.str a0)), (4, .d (.int .i64 r6.1)), (5, .d (.int .i64 z27)), (6, .loc 0 0 l10.length), (7, .ptr 1 0 0)], stab [(0, .lst false (some 12) (List.map eapi_Deed l10)), (1, .var [.d (.int .i64 z28.What), .d (.int .i64 z28.N), .d (.bool (b61 == 1)), .d (.int .u16 z28.P.a0), .d (.int .u16 z28.P.a1), .d (.int .u16 z28.P.a2), .d (.int .u16 z28.P.a3), .d (.int .u16 z28.P.a4), .d (.int .u16 z28.P.a5), .d (.int .u16 z28.P.a6), .d (.int .u16 z28.P.a7), .d (.str z28.Raw)])], 2⟩ ?_ ?_
                    · refine step (v := .d (.str a0)) rfl ?_
                      refine step (v := .d (.int .i64 z27)) rfl ?_
                      refine step (v := .d (.int .u8 b61)) (st_idxS hb61 rfl rfl) ?_
                      refine step (v := .d (.bool (b61 == 1))) rfl ?_
                      refine step (v := .ptr 1 0 2) rfl ?_
                      refine step (v := V.undef) (σ' := (upd (stab [(0, .lst false (some 12) (List.map eapi_Deed l10)), (1, .var [.d (.int .i64 z28.What), .d (.int .i64 z28.N), .d (.bool z28.Back), .d (.int .u16 z28.P.a0), .d (.int .u16 z28.P.a1), .d (.int .u16 z28.P.a2), .d (.int .u16 z28.P.a3), .d (.int .u16 z28.P.a4), .d (.int .u16 z28.P.a5), .d (.int .u16 z28.P.a6), .d (.int .u16 z28.P.a7), .d (.str z28.Raw)])]) 1 (some (.var [.d (.int .i64 z28.What), .d (.int .i64 z28.N), .d (.bool (b61 == 1)), .d (.int .u16 z28.P.a0), .d (.int .u16 z28.P.a1), .d (.int .u16 z28.P.a2), .d (.int .u16 z28.P.a3), .d (.int .u16 z28.P.a4), .d (.int .u16 z28.P.a5), .d (.int .u16 z28.P.a6), .d (.int .u16 z28.P.a7), .d (.str z28.Raw)])))) (n' := 2) rfl ?_
                      exact RunOps.nil' (Norm.mk [0, 1] (by decide) (by decide) (by decide) ⟨.d _, .d _, .d _, .loc 0 _ _ (show 0 < 2 by decide), .ptr 1 _ _ (show 1 < 2 by decide), trivial⟩ ⟨⟨show 0 < 2 by decide, _, rfl, .lst _ _ _⟩, ⟨show 1 < 2 by decide, _, rfl, .vars ⟨.d _, .d _, .d _, .d _, .d _, .d _, .d _, .d _, .d _, .d _, .d _, .d _, trivial⟩⟩, trivial⟩)
                    have hh := Option.some.inj h
                    subst hh
                    refine NWp.opsE ⟨tab [(0, .d (.str a0)), (4, .d (.int .i64 r6.1)), (5, .d (.int .i64 (IntKind.i64.wrap (z27 + 1)))), (6, .loc 0 0 l10.length), (7, .ptr 1 0 0)], stab [(0, .lst false (some 12) (List.map eapi_Deed l10)), (1, .var [.d (.int .i64 ((api_Deed.mk z28.What z28.N (b61 == 1) z28.P z28.Raw).What)), .d (.int .i64 ((api_Deed.mk z28.What z28.N (b61 == 1) z28.P z28.Raw).N)), .d (.bool ((api_Deed.mk z28.What z28.N (b61 == 1) z28.P z28.Raw).Back)), .d (.int .u16 ((api_Deed.mk z28.What z28.N (b61 == 1) z28.P z28.Raw).P.a0)), .d (.int .u16 ((api_Deed.mk z28.What z28.N (b61 == 1) z28.P z28.Raw).P.a1)), .d (.int .u16 ((api_Deed.mk z28.What z28.N (b61 == 1) z28.P z28.Raw).P.a2)), .d (.int .u16 ((api_Deed.mk z28.What z28.N (b61 == 1) z28.P z28.Raw).P.a3)), .d (.int .u16 ((api_Deed.mk z28.What z28.N (b61 == 1) z28.P z28.Raw).P.a4)), .d (.int .u16 ((api_Deed.mk z28.What z28.N (b61 == 1) z28.P z28.Raw).P.a5)), .d (.int .u16 ((api_Deed.mk z28.What z28.N (b61 == 1) z28.P z28.Raw).P.a6)), .d (.int .u16 ((api_Deed.mk z28.What z28.N (b61 == 1) z28.P z28.Raw).P.a7)), .d (.str ((api_Deed.mk z28.What z28.N (b61 == 1) z28.P z28.Raw).Raw))])], 2⟩ ?_ ?_
                    · refine step (v := .d (.int .i64 z27)) rfl ?_
                      refine step (v := .d (.int .i64 (IntKind.i64.wrap (z27 + 1)))) rfl ?_
                      refine step (v := .d (.int .i64 (IntKind.i64.wrap (z27 + 1)))) rfl ?_
                      exact RunOps.nil' (Norm.mk [0, 1] (by decide) (by decide) (by decide) ⟨.d _, .d _, .d _, .loc 0 _ _ (show 0 < 2 by decide), .ptr 1 _ _ (show 1 < 2 by decide), trivial⟩ ⟨⟨show 0 < 2 by decide, _, rfl, .lst _ _ _⟩, ⟨show 1 < 2 by decide, _, rfl, .vars ⟨.d _, .d _, .d _, .d _, .d _, .d _, .d _, .d _, .d _, .d _, .d _, .d _, trivial⟩⟩, trivial⟩)
                    exact And.intro rfl rfl
                · replace h := iteF hc55 h
                  refine NWp.condF (t := y53) rfl hc55 ?_
                  have hh := Option.some.inj h
                  subst hh
                  refine NWp.norm (s0 := ⟨tab [(0, .d (.str a0)), (4, .d (.int .i64 r6.1)), (5, .d (.int .i64 z27)), (6, .loc 0 0 l10.length), (7, .ptr 1 0 0)], stab [(0, .lst false (some 12) (List.map eapi_Deed l10)), (1, .var [.d (.int .i64 z28.What), .d (.int .i64 z28.N), .d (.bool z28.Back), .d (.int .u16 z28.P.a0), .d (.int .u16 z28.P.a1), .d (.int .u16 z28.P.a2), .d (.int .u16 z28.P.a3), .d (.int .u16 z28.P.a4), .d (.int .u16 z28.P.a5), .d (.int .u16 z28.P.a6), .d (.int .u16 z28.P.a7), .d (.str z28.Raw)])], 2⟩) (Norm.mk [0, 1] (by decide) (by decide) (by decide) ⟨.d _, .d _, .d _, .loc 0 _ _ (show 0 < 2 by decide), .ptr 1 _ _ (show 1 < 2 by decide), trivial⟩ ⟨⟨show 0 < 2 by decide, _, rfl, .lst _ _ _⟩, ⟨show 1 < 2 by decide, _, rfl, .vars ⟨.d _, .d _, .d _, .d _, .d _, .d _, .d _, .d _, .d _, .d _, .d _, .d _, trivial⟩⟩, trivial⟩) ?_
                  refine NWp.skip ?_
                  exact And.intro rfl rfl
          · intro r' hq
            subst hq
            exact Option.some.inj h
          rintro ⟨y62, y63⟩ rfl
          show NWp _ _ _ _ _ ⟨tab [(0, .d (.str a0)), (4, .d (.int .i64 r6.1)), (5, .d (.int .i64 y62)), (6, .loc 0 0 l10.length), (7, .ptr 1 0 0)], stab [(0, .lst false (some 12) (List.map eapi_Deed l10)), (1, .var [.d (.int .i64 y63.What), .d (.int .i64 y63.N), .d (.bool y63.Back), .d (.int .u16 y63.P.a0), .d (.int .u16 y63.P.a1), .d (.int .u16 y63.P.a2), .d (.int .u16 y63.P.a3), .d (.int .u16 y63.P.a4), .d (.int .u16 y63.P.a5), .d (.int .u16 y63.P.a6), .d (.int .u16 y63.P.a7), .d (.str y63.Raw)])], 2⟩
          obtain ⟨l65, hl65, h⟩ := bindE h
          have hh := Option.some.inj h
          subst hh
          refine NWp.opsE ⟨tab [(0, .d (.str a0)), (4, .d (.int .i64 r6.1)), (5, .d (.int .i64 y62)), (6, .loc 0 0 l65.length)], stab [(0, .lst false (some 12) (List.map eapi_Deed l65))], 1⟩ ?_ ?_
          · refine step (v := .loc 0 0 l10.length) rfl ?_
            refine step (v := .d (eapi_Deed y63)) (st_ldV (ds := [.int .i64 y63.What, .int .i64 y63.N, .bool y63.Back, .int .u16 y63.P.a0, .int .u16 y63.P.a1, .int .u16 y63.P.a2, .int .u16 y63.P.a3, .int .u16 y63.P.a4, .int .u16 y63.P.a5, .int .u16 y63.P.a6, .int .u16 y63.P.a7, .str y63.Raw]) rfl rfl (show 12 ≤ 12 by decide) rfl) ?_
            refine step (v := .d (eL (some 12) eapi_Deed ([y63] : List api_Deed))) rfl ?_
            refine step (v := .loc 2 0 l65.length) (σ' := (upd (upd (stab [(0, .lst false (some 12) (List.map eapi_Deed l10)), (1, .var [.d (.int .i64 y63.What), .d (.int .i64 y63.N), .d (.bool y63.Back), .d (.int .u16 y63.P.a0), .d (.int .u16 y63.P.a1), .d (.int .u16 y63.P.a2), .d (.int .u16 y63.P.a3), .d (.int .u16 y63.P.a4), .d (.int .u16 y63.P.a5), .d (.int .u16 y63.P.a6), .d (.int .u16 y63.P.a7), .d (.str y63.Raw)])]) 0 none) 2 (some (.lst false (some 12) (List.map eapi_Deed l65))))) (n' := 3) (st_app (xs := l10) (ys := ([y63] : List api_Deed)) (e := eapi_Deed) hl65 rfl rfl rfl (src_v (xs := ([y63] : List api_Deed)) (e := eapi_Deed) rfl)) ?_
            refine step (v := .loc 2 0 l65.length) rfl ?_
            exact RunOps.nil' (Norm.mk [2] (by decide) (by decide) (by decide) ⟨.d _, .d _, .d _, .loc 0 _ _ (show 0 < 1 by decide), trivial⟩ ⟨⟨show 0 < 1 by decide, _, rfl, .lst _ _ _⟩, trivial⟩)
          exact And.intro rfl rfl
        · replace h := iteF hc12 h
          refine NWp.condF (t := decide ((l10.length : Int) < r6.1)) rfl hc12 ?_
          have hh := Option.some.inj h
          subst hh
          refine NWp.norm (s0 := ⟨tab [(0, .d (.str a0)), (6, .loc 0 0 l10.length)], stab [(0, .lst false (some 12) (List.map eapi_Deed l10))], 1⟩) (Norm.mk [0] (by decide) (by decide) (by decide) ⟨.d _, .loc 0 _ _ (show 0 < 1 by decide), trivial⟩ ⟨⟨show 0 < 1 by decide, _, rfl, .lst _ _ _⟩, trivial⟩) ?_
          refine NWp.exit ?_
          exact And.intro rfl rfl
      · intro r' hq
        subst hq
        exact Option.some.inj h
      rintro ⟨z67, z68⟩ rfl
      obtain ⟨r69, hr69, h⟩ := bindE h
      refine NWp.opsJ ⟨tab [(0, .d (.str a0)), (6, .loc 0 0 z68.length), (16, .d (.str r69.1)), (17, .d (.int .i64 r69.2))], stab [(0, .lst false (some 12) (List.map eapi_Deed z68))], 1⟩ ?_ ?_
      · refine step (v := .loc 0 0 z68.length) rfl ?_
        refine stepC (r := .tup [.str r69.1, .int .i64 r69.2]) (ArgsOk.lcm (xs := z68) (e := eapi_Deed) rfl rfl ArgsOk.nil') (c_ref32_Encode hr69) ?_
        refine step (v := .d (.tup [.str r69.1, .int .i64 r69.2])) rfl ?_
        refine step (v := .d (.str r69.1)) rfl ?_
        refine step (v := .d (.int .i64 r69.2)) rfl ?_
        refine step (v := .d (.str r69.1)) rfl ?_
        refine step (v := .d (.int .i64 r69.2)) rfl ?_
        exact RunOps.nil' (Norm.mk [0] (by decide) (by decide) (by decide) ⟨.d _, .loc 0 _ _ (show 0 < 1 by decide), .d _, .d _, trivial⟩ ⟨⟨show 0 < 1 by decide, _, rfl, .lst _ _ _⟩, trivial⟩)
      refine NWp.seq ?_
      refine NWp.opsJ ⟨tab [(6, .loc 0 0 z68.length), (154, .d (.bool ((r69.2 != 0) || (!(seqB r69.1 a0)))))], stab [(0, .lst false (some 12) (List.map eapi_Deed z68))], 1⟩ ?_ ?_
      · refine step (v := .d (.int .i64 r69.2)) rfl ?_
        refine step (v := .d (.bool (r69.2 != 0))) rfl ?_
        refine step (v := .d (.bool (r69.2 != 0))) rfl ?_
        by_cases hg70 : (r69.2 != 0) = true
        · refine stepX (c := (r69.2 != 0)) rfl (by rw [hg70]; decide) ?_
          refine stepX (c := (r69.2 != 0)) rfl (by rw [hg70]; decide) ?_
          refine stepX (c := (r69.2 != 0)) rfl (by rw [hg70]; decide) ?_
          refine step (v := .d (.bool true)) (st_pickT (b := (r69.2 != 0)) rfl hg70 rfl) ?_
          exact RunOps.nil' (Norm.mk [0] (by decide) (by decide) (by decide) ⟨.loc 0 _ _ (show 0 < 1 by decide), .eq (by simp [hg70]), trivial⟩ ⟨⟨show 0 < 1 by decide, _, rfl, .lst _ _ _⟩, trivial⟩)
        · refine stepG (c := (r69.2 != 0)) rfl (Bool.eq_false_iff.2 hg70) ?_
          refine step (v := .d (.str r69.1)) rfl ?_
          refine stepG (c := (r69.2 != 0)) rfl (Bool.eq_false_iff.2 hg70) ?_
          refine step (v := .d (.str a0)) rfl ?_
          refine stepG (c := (r69.2 != 0)) rfl (Bool.eq_false_iff.2 hg70) ?_
          refine step (v := .d (.bool (!(seqB r69.1 a0)))) rfl ?_
          refine step (v := .d (.bool (!(seqB r69.1 a0)))) (st_pickF (b := (r69.2 != 0)) rfl hg70 rfl) ?_
          exact RunOps.nil' (Norm.mk [0] (by decide) (by decide) (by decide) ⟨.loc 0 _ _ (show 0 < 1 by decide), .eq (by simp [hg70]), trivial⟩ ⟨⟨show 0 < 1 by decide, _, rfl, .lst _ _ _⟩, trivial⟩)
      by_cases hc71 : ((r69.2 != 0) || (!(seqB r69.1 a0))) = true
      · replace h := iteT hc71 h
        refine NWp.condT (t := ((r69.2 != 0) || (!(seqB r69.1 a0)))) rfl hc71 ?_
        refine NWp.opsJ ⟨tab [(2, .d (eL (some 12) eapi_Deed ([] : List api_Deed))), (3, .d (.bool false))], stab [], 0⟩ ?_ ?_
        · refine step (v := .d (eL (some 12) eapi_Deed ([] : List api_Deed))) rfl ?_
          refine step (v := .d (.bool false)) rfl ?_
          exact RunOps.nil' (Norm.mk [] (by decide) (by decide) (by decide) ⟨.d _, .d _, trivial⟩ trivial)
        have hh := Option.some.inj h
        subst hh
        refine NWp.ret ?_
        show FQ _ _ _ _
        exact FQ.mkT (.inr rfl) (res_t (v := .d (eL (some 12) eapi_Deed ([] : List api_Deed))) rfl (res_t (v := .d (.bool false)) rfl rfl)) (RV.d (RV.d trivial))
      · replace h := iteF hc71 h
        refine NWp.condF (t := ((r69.2 != 0) || (!(seqB r69.1 a0)))) rfl hc71 ?_
        refine NWp.skip ?_
        refine NWp.opsJ ⟨tab [(2, .loc 0 0 z68.length), (3, .d (.bool true))], stab [(0, .lst false (some 12) (List.map eapi_Deed z68))], 1⟩ ?_ ?_
        · refine step (v := .loc 0 0 z68.length) rfl ?_
          refine step (v := .loc 0 0 z68.length) rfl ?_
          refine step (v := .d (.bool true)) rfl ?_
          exact RunOps.nil' (Norm.mk [0] (by decide) (by decide) (by decide) ⟨.loc 0 _ _ (show 0 < 1 by decide), .d _, trivial⟩ ⟨⟨show 0 < 1 by decide, _, rfl, .lst _ _ _⟩, trivial⟩)
        have hh := Option.some.inj h
        subst hh
        refine NWp.ret ?_
        show FQ _ _ _ _
        exact FQ.mkT (.inr rfl) (res_t (v := .loc 0 0 z68.length) rfl (res_t (v := .d (.bool true)) rfl rfl)) (RV.loc (xs := z68) (e := eapi_Deed) rfl rfl (RV.d trivial))

theorem c_law32_SaveAny {a0 : ByteArray} {r : Bool} (h : law32_SaveAny a0 = some r) : PCall Try.prog 3 [.str a0] (.bool r) := by
  refine PCall.introN ok3 (show 1 ≤ 38 by decide) ?_
  refine NWp.norm (s0 := ⟨tab [(0, .d (.str a0))], stab [], 0⟩) (Norm.mk [] (by decide) (by decide) (by decide) ⟨.d _, trivial⟩ trivial) ?_
  refine NWp.opsJ ⟨tab [(0, .d (.str a0))], stab [], 0⟩ ?_ ?_
  · refine step (v := .d (.bool false)) rfl ?_
    exact RunOps.nil' (Norm.mk [] (by decide) (by decide) (by decide) ⟨.d _, trivial⟩ trivial)
  refine NWp.seq ?_
  obtain ⟨r1, hr1, h⟩ := bindE h
  refine NWp.opsJ ⟨tab [(0, .d (.str a0)), (8, .d (.bool (!r1)))], stab [], 0⟩ ?_ ?_
  · refine stepC (r := .bool r1) ArgsOk.nil' (c_law32_awake hr1) ?_
    refine step (v := .d (.bool (!r1))) rfl ?_
    exact RunOps.nil' (Norm.mk [] (by decide) (by decide) (by decide) ⟨.d _, .d _, trivial⟩ trivial)
  by_cases hc2 : (!r1) = true
  · replace h := iteT hc2 h
    refine NWp.condT (t := (!r1)) rfl hc2 ?_
    refine NWp.opsJ ⟨tab [(2, .d (.bool false))], stab [], 0⟩ ?_ ?_
    · refine step (v := .d (.bool false)) rfl ?_
      exact RunOps.nil' (Norm.mk [] (by decide) (by decide) (by decide) ⟨.d _, trivial⟩ trivial)
    have hh := Option.some.inj h
    subst hh
    refine NWp.ret ?_
    show FQ _ _ _ _
    exact FQ.mk1 (.inr rfl) (res_t (v := .d (.bool false)) rfl rfl) (RV.d trivial)
  · replace h := iteF hc2 h
    refine NWp.condF (t := (!r1)) rfl hc2 ?_
    refine NWp.skip ?_
    refine NWp.seq ?_
    refine NWp.opsJ ⟨tab [(0, .d (.str a0)), (11, .d (.bool (decide ((a0.size : Int) > 600))))], stab [], 0⟩ ?_ ?_
    · refine step (v := .d (.str a0)) rfl ?_
      refine step (v := .d (.int .i64 (a0.size : Int))) rfl ?_
      refine step (v := .d (.bool (decide ((a0.size : Int) > 600)))) rfl ?_
      exact RunOps.nil' (Norm.mk [] (by decide) (by decide) (by decide) ⟨.d _, .d _, trivial⟩ trivial)
    by_cases hc3 : decide ((a0.size : Int) > 600) = true
    · replace h := iteT hc3 h
      refine NWp.condT (t := decide ((a0.size : Int) > 600)) rfl hc3 ?_
      refine NWp.opsJ ⟨tab [(2, .d (.bool true))], stab [], 0⟩ ?_ ?_
      · refine step (v := .d (.bool true)) rfl ?_
        exact RunOps.nil' (Norm.mk [] (by decide) (by decide) (by decide) ⟨.d _, trivial⟩ trivial)
      have hh := Option.some.inj h
      subst hh
      refine NWp.ret ?_
      show FQ _ _ _ _
      exact FQ.mk1 (.inr rfl) (res_t (v := .d (.bool true)) rfl rfl) (RV.d trivial)
    · replace h := iteF hc3 h
      refine NWp.condF (t := decide ((a0.size : Int) > 600)) rfl hc3 ?_
      refine NWp.skip ?_
      obtain ⟨r4, hr4, h⟩ := bindE h
      refine NWp.opsJ ⟨tab [(0, .d (.str a0)), (3, .d (eL (some 12) eapi_Deed r4.1)), (4, .d (.int .i64 r4.2))], stab [], 0⟩ ?_ ?_
      · refine step (v := .d (.str a0)) rfl ?_
        refine stepC (r := .tup [eL (some 12) eapi_Deed r4.1, .int .i64 r4.2]) (ArgsOk.dt ArgsOk.nil') (c_save_Decode hr4) ?_
        refine step (v := .d (.tup [eL (some 12) eapi_Deed r4.1, .int .i64 r4.2])) rfl ?_
        refine step (v := .d (eL (some 12) eapi_Deed r4.1)) rfl ?_
        refine step (v := .d (.int .i64 r4.2)) rfl ?_
        refine step (v := .d (eL (some 12) eapi_Deed r4.1)) rfl ?_
        refine step (v := .d (.int .i64 r4.2)) rfl ?_
        exact RunOps.nil' (Norm.mk [] (by decide) (by decide) (by decide) ⟨.d _, .d _, .d _, trivial⟩ trivial)
      obtain ⟨r5, hr5, h⟩ := bindE h
      refine NWp.opsJ ⟨tab [(3, .d (eL (some 12) eapi_Deed r4.1)), (4, .d (.int .i64 r4.2)), (5, .d (eL (some 12) eapi_Deed r5.1)), (6, .d (.bool r5.2))], stab [], 0⟩ ?_ ?_
      · refine step (v := .d (.str a0)) rfl ?_
        refine stepC (r := .tup [eL (some 12) eapi_Deed r5.1, .bool r5.2]) (ArgsOk.dt ArgsOk.nil') (c_ref32_Decode hr5) ?_
        refine step (v := .d (.tup [eL (some 12) eapi_Deed r5.1, .bool r5.2])) rfl ?_
        refine step (v := .d (eL (some 12) eapi_Deed r5.1)) rfl ?_
        refine step (v := .d (.bool r5.2)) rfl ?_
        refine step (v := .d (eL (some 12) eapi_Deed r5.1)) rfl ?_
        refine step (v := .d (.bool r5.2)) rfl ?_
        exact RunOps.nil' (Norm.mk [] (by decide) (by decide) (by decide) ⟨.d _, .d _, .d _, .d _, trivial⟩ trivial)
      obtain ⟨y10, hv, h⟩ := bindE h
      refine NWp.opsJ ⟨tab [(2, .d (.bool y10))], stab [], 0⟩ ?_ ?_
      · refine step (v := .d (.int .i64 r4.2)) rfl ?_
        refine step (v := .d (.bool (r4.2 == 0))) rfl ?_
        refine step (v := .d (.bool r5.2)) rfl ?_
        refine step (v := .d (.bool ((r4.2 == 0) == r5.2))) rfl ?_
        refine step (v := .d (.bool ((r4.2 == 0) == r5.2))) rfl ?_
        by_cases hg6 : ((r4.2 == 0) == r5.2) = true
        · replace hv := iteT hg6 hv
          obtain ⟨r7, hr7, hv⟩ := bindE hv
          refine stepG (c := ((r4.2 == 0) == r5.2)) rfl hg6 ?_
          refine step (v := .d (eL (some 12) eapi_Deed r4.1)) rfl ?_
          refine stepG (c := ((r4.2 == 0) == r5.2)) rfl hg6 ?_
          refine step (v := .d (eL (some 12) eapi_Deed r5.1)) rfl ?_
          refine stepG (c := ((r4.2 == 0) == r5.2)) rfl hg6 ?_
          refine stepC (r := .bool r7) (ArgsOk.dt (ArgsOk.dt ArgsOk.nil')) (c_ref32_Same hr7) ?_
          refine step (v := .d (.bool r7)) (st_pickT (b := ((r4.2 == 0) == r5.2)) rfl hg6 rfl) ?_
          refine step (v := .d (.bool r7)) rfl ?_
          by_cases hg8 : r7 = true
          · replace hv := iteT hg8 hv
            refine stepG (c := r7) rfl hg8 ?_
            refine step (v := .d (.bool r5.2)) rfl ?_
            refine stepG (c := r7) rfl hg8 ?_
            refine step (v := .d (.bool r5.2)) rfl ?_
            by_cases hg9 : r5.2 = true
            · replace hv := iteT hg9 hv
              refine stepX (c := r5.2) rfl (by rw [hg9]; decide) ?_
              refine stepX (c := r5.2) rfl (by rw [hg9]; decide) ?_
              refine stepG (c := r7) rfl hg8 ?_
              refine step (v := .d (.bool true)) (st_pickT (b := r5.2) rfl hg9 rfl) ?_
              refine step (v := .d (.bool true)) (st_pickT (b := r7) rfl hg8 rfl) ?_
              refine step (v := .d (.bool true)) rfl ?_
              have hh := Option.some.inj hv
              subst hh
              exact RunOps.nil' (Norm.mk [] (by decide) (by decide) (by decide) ⟨.d _, trivial⟩ trivial)
            · replace hv := iteF hg9 hv
              refine stepG (c := r5.2) rfl (Bool.eq_false_iff.2 hg9) ?_
              refine step (v := .d (.int .i64 r4.2)) rfl ?_
              refine stepG (c := r5.2) rfl (Bool.eq_false_iff.2 hg9) ?_
              refine step (v := .d (.bool (r4.2 == 30))) rfl ?_
              refine stepG (c := r7) rfl hg8 ?_
              refine step (v := .d (.bool (r4.2 == 30))) (st_pickF (b := r5.2) rfl hg9 rfl) ?_
              refine step (v := .d (.bool (r4.2 == 30))) (st_pickT (b := r7) rfl hg8 rfl) ?_
              refine step (v := .d (.bool (r4.2 == 30))) rfl ?_
              have hh := Option.some.inj hv
              subst hh
              exact RunOps.nil' (Norm.mk [] (by decide) (by decide) (by decide) ⟨.d _, trivial⟩ trivial)
          · replace hv := iteF hg8 hv
            refine stepX (c := r7) rfl hg8 ?_
            refine stepX (c := r7) rfl hg8 ?_
            refine stepXX rfl ?_
            refine stepXX rfl ?_
            refine stepX (c := r7) rfl hg8 ?_
            refine step (v := .d (.bool false)) (st_pickF (b := r7) rfl hg8 rfl) ?_
            refine step (v := .d (.bool false)) rfl ?_
            have hh := Option.some.inj hv
            subst hh
            exact RunOps.nil' (Norm.mk [] (by decide) (by decide) (by decide) ⟨.d _, trivial⟩ trivial)
        · replace hv := iteF hg6 hv
          refine stepX (c := ((r4.2 == 0) == r5.2)) rfl hg6 ?_
          refine stepX (c := ((r4.2 == 0) == r5.2)) rfl hg6 ?_
          refine stepX (c := ((r4.2 == 0) == r5.2)) rfl hg6 ?_
          refine step (v := .d (.bool false)) (st_pickF (b := ((r4.2 == 0) == r5.2)) rfl hg6 rfl) ?_
          refine step (v := .d (.bool false)) rfl ?_
          refine stepX (c := false) rfl (by decide) ?_
          refine stepX (c := false) rfl (by decide) ?_
          refine stepXX rfl ?_
          refine stepXX rfl ?_
          refine stepX (c := false) rfl (by decide) ?_
          refine step (v := .d (.bool false)) (st_pickF (b := false) rfl (by decide) rfl) ?_
          refine step (v := .d (.bool false)) rfl ?_
          have hh := Option.some.inj hv
          subst hh
          exact RunOps.nil' (Norm.mk [] (by decide) (by decide) (by decide) ⟨.d _, trivial⟩ trivial)
      have hh := Option.some.inj h
      subst hh
      refine NWp.ret ?_
      show FQ _ _ _ _
      exact FQ.mk1 (.inr rfl) (res_t (v := .d (.bool y10)) rfl rfl) (RV.d trivial)

theorem c_law32_SaveMade {a0 : ByteArray} {r : Bool} (h : law32_SaveMade a0 = some r) : PCall Try.prog 4 [.str a0] (.bool r) := by
  refine PCall.introN ok4 (show 1 ≤ 42 by decide) ?_
  refine NWp.norm (s0 := ⟨tab [(0, .d (.str a0))], stab [], 0⟩) (Norm.mk [] (by decide) (by decide) (by decide) ⟨.d _, trivial⟩ trivial) ?_
  refine NWp.opsJ ⟨tab [(0, .d (.str a0))], stab [], 0⟩ ?_ ?_
  · refine step (v := .d (.bool false)) rfl ?_
    exact RunOps.nil' (Norm.mk [] (by decide) (by decide) (by decide) ⟨.d _, trivial⟩ trivial)
  refine NWp.seq ?_
  obtain ⟨r1, hr1, h⟩ := bindE h
  refine NWp.opsJ ⟨tab [(0, .d (.str a0)), (9, .d (.bool (!r1)))], stab [], 0⟩ ?_ ?_
  · refine stepC (r := .bool r1) ArgsOk.nil' (c_law32_awake hr1) ?_
    refine step (v := .d (.bool (!r1))) rfl ?_
    exact RunOps.nil' (Norm.mk [] (by decide) (by decide) (by decide) ⟨.d _, .d _, trivial⟩ trivial)
  by_cases hc2 : (!r1) = true
  · replace h := iteT hc2 h
    refine NWp.condT (t := (!r1)) rfl hc2 ?_
    refine NWp.opsJ ⟨tab [(2, .d (.bool false))], stab [], 0⟩ ?_ ?_
    · refine step (v := .d (.bool false)) rfl ?_
      exact RunOps.nil' (Norm.mk [] (by decide) (by decide) (by decide) ⟨.d _, trivial⟩ trivial)
    have hh := Option.some.inj h
    subst hh
    refine NWp.ret ?_
    show FQ _ _ _ _
    exact FQ.mk1 (.inr rfl) (res_t (v := .d (.bool false)) rfl rfl) (RV.d trivial)
  · replace h := iteF hc2 h
    refine NWp.condF (t := (!r1)) rfl hc2 ?_
    refine NWp.skip ?_
    refine NWp.seq ?_
    refine NWp.opsJ ⟨tab [(0, .d (.str a0)), (12, .d (.bool (decide ((a0.size : Int) > 300))))], stab [], 0⟩ ?_ ?_
    · refine step (v := .d (.str a0)) rfl ?_
      refine step (v := .d (.int .i64 (a0.size : Int))) rfl ?_
      refine step (v := .d (.bool (decide ((a0.size : Int) > 300)))) rfl ?_
      exact RunOps.nil' (Norm.mk [] (by decide) (by decide) (by decide) ⟨.d _, .d _, trivial⟩ trivial)
    by_cases hc3 : decide ((a0.size : Int) > 300) = true
    · replace h := iteT hc3 h
      refine NWp.condT (t := decide ((a0.size : Int) > 300)) rfl hc3 ?_
      refine NWp.opsJ ⟨tab [(2, .d (.bool true))], stab [], 0⟩ ?_ ?_
      · refine step (v := .d (.bool true)) rfl ?_
        exact RunOps.nil' (Norm.mk [] (by decide) (by decide) (by decide) ⟨.d _, trivial⟩ trivial)
      have hh := Option.some.inj h
      subst hh
      refine NWp.ret ?_
      show FQ _ _ _ _
      exact FQ.mk1 (.inr rfl) (res_t (v := .d (.bool true)) rfl rfl) (RV.d trivial)
    · replace h := iteF hc3 h
      refine NWp.condF (t := decide ((a0.size : Int) > 300)) rfl hc3 ?_
      refine NWp.skip ?_
      obtain ⟨l4, hl4, h⟩ := bindE h
      refine NWp.opsJ ⟨tab [(3, .loc 0 0 l4.length)], stab [(0, .lst false none (List.map (D.int .u8) l4))], 1⟩ ?_ ?_
      · refine step (v := .loc 0 0 (([68] : List Int).length)) (σ' := (upd (stab []) 0 (some (.lst false none (List.map (D.int .u8) ([68] : List Int)))))) (n' := 1) rfl ?_
        refine step (v := .d (.str a0)) rfl ?_
        refine step (v := .loc 1 0 l4.length) (σ' := (upd (upd (upd (stab []) 0 (some (.lst false none (List.map (D.int .u8) ([68] : List Int))))) 0 none) 1 (some (.lst false none (List.map (D.int .u8) l4))))) (n' := 2) (st_app (xs := ([68] : List Int)) (ys := bytesOf a0) (e := (D.int .u8)) hl4 rfl rfl rfl (src_s rfl)) ?_
        refine step (v := .loc 1 0 l4.length) rfl ?_
        exact RunOps.nil' (Norm.mk [1] (by decide) (by decide) (by decide) ⟨.loc 0 _ _ (show 0 < 1 by decide), trivial⟩ ⟨⟨show 0 < 1 by decide, _, rfl, .lst _ _ _⟩, trivial⟩)
      obtain ⟨r5, hr5, h⟩ := bindE h
      obtain ⟨r6, hr6, h⟩ := bindE h
      obtain ⟨l7, hl7, h⟩ := bindE h
      refine NWp.opsJ ⟨tab [(3, .loc 0 0 l7.length)], stab [(0, .lst false none (List.map (D.int .u8) l7))], 1⟩ ?_ ?_
      · refine step (v := .loc 0 0 l4.length) rfl ?_
        refine step (v := .loc 0 0 l4.length) rfl ?_
        refine stepC (r := .int .u16 r5) (ArgsOk.lcm (xs := l4) (e := (D.int .u8)) rfl rfl ArgsOk.nil') (c_ref03_Check hr5) ?_
        refine stepC (r := eL none (D.int .u8) r6) (ArgsOk.dt ArgsOk.nil') (c_ref03_Two hr6) ?_
        refine step (v := .loc 1 0 l7.length) (σ' := (upd (upd (stab [(0, .lst false none (List.map (D.int .u8) l4))]) 0 none) 1 (some (.lst false none (List.map (D.int .u8) l7))))) (n' := 2) (st_app (xs := l4) (ys := r6) (e := (D.int .u8)) hl7 rfl rfl rfl (src_v (xs := r6) (e := (D.int .u8)) rfl)) ?_
        refine step (v := .loc 1 0 l7.length) rfl ?_
        exact RunOps.nil' (Norm.mk [1] (by decide) (by decide) (by decide) ⟨.loc 0 _ _ (show 0 < 1 by decide), trivial⟩ ⟨⟨show 0 < 1 by decide, _, rfl, .lst _ _ _⟩, trivial⟩)
      obtain ⟨r8, hr8, h⟩ := bindE h
      refine NWp.opsJ ⟨tab [(3, .loc 0 0 l7.length), (4, .d (eL (some 12) eapi_Deed r8.1)), (5, .d (.int .i64 r8.2))], stab [(0, .lst false none (List.map (D.int .u8) l7))], 1⟩ ?_ ?_
      · refine step (v := .loc 0 0 l7.length) rfl ?_
        refine step (v := .d (.str (strOfB l7))) (st_b2sL (xs := l7) rfl rfl rfl) ?_
        refine stepC (r := .tup [eL (some 12) eapi_Deed r8.1, .int .i64 r8.2]) (ArgsOk.dt ArgsOk.nil') (c_save_Decode hr8) ?_
        refine step (v := .d (.tup [eL (some 12) eapi_Deed r8.1, .int .i64 r8.2])) rfl ?_
        refine step (v := .d (eL (some 12) eapi_Deed r8.1)) rfl ?_
        refine step (v := .d (.int .i64 r8.2)) rfl ?_
        refine step (v := .d (eL (some 12) eapi_Deed r8.1)) rfl ?_
        refine step (v := .d (.int .i64 r8.2)) rfl ?_
        exact RunOps.nil' (Norm.mk [0] (by decide) (by decide) (by decide) ⟨.loc 0 _ _ (show 0 < 1 by decide), .d _, .d _, trivial⟩ ⟨⟨show 0 < 1 by decide, _, rfl, .lst _ _ _⟩, trivial⟩)
      obtain ⟨r9, hr9, h⟩ := bindE h
      refine NWp.opsJ ⟨tab [(4, .d (eL (some 12) eapi_Deed r8.1)), (5, .d (.int .i64 r8.2)), (6, .d (eL (some 12) eapi_Deed r9.1)), (7, .d (.bool r9.2))], stab [], 0⟩ ?_ ?_
      · refine step (v := .loc 0 0 l7.length) rfl ?_
        refine step (v := .d (.str (strOfB l7))) (st_b2sL (xs := l7) rfl rfl rfl) ?_
        refine stepC (r := .tup [eL (some 12) eapi_Deed r9.1, .bool r9.2]) (ArgsOk.dt ArgsOk.nil') (c_ref32_Decode hr9) ?_
        refine step (v := .d (.tup [eL (some 12) eapi_Deed r9.1, .bool r9.2])) rfl ?_
        refine step (v := .d (eL (some 12) eapi_Deed r9.1)) rfl ?_
        refine step (v := .d (.bool r9.2)) rfl ?_
        refine step (v := .d (eL (some 12) eapi_Deed r9.1)) rfl ?_
        refine step (v := .d (.bool r9.2)) rfl ?_
        exact RunOps.nil' (Norm.mk [] (by decide) (by decide) (by decide) ⟨.d _, .d _, .d _, .d _, trivial⟩ trivial)
      obtain ⟨y12, hv, h⟩ := bindE h
      refine NWp.opsJ ⟨tab [(2, .d (.bool y12))], stab [], 0⟩ ?_ ?_
      · refine step (v := .d (.int .i64 r8.2)) rfl ?_
        refine step (v := .d (.bool (r8.2 == 0))) rfl ?_
        refine step (v := .d (.bool r9.2)) rfl ?_
        refine step (v := .d (.bool ((r8.2 == 0) == r9.2))) rfl ?_
        refine step (v := .d (.bool ((r8.2 == 0) == r9.2))) rfl ?_
        by_cases hg10 : ((r8.2 == 0) == r9.2) = true
        · replace hv := iteT hg10 hv
          obtain ⟨r11, hr11, hv⟩ := bindE hv
          refine stepG (c := ((r8.2 == 0) == r9.2)) rfl hg10 ?_
          refine step (v := .d (eL (some 12) eapi_Deed r8.1)) rfl ?_
          refine stepG (c := ((r8.2 == 0) == r9.2)) rfl hg10 ?_
          refine step (v := .d (eL (some 12) eapi_Deed r9.1)) rfl ?_
          refine stepG (c := ((r8.2 == 0) == r9.2)) rfl hg10 ?_
          refine stepC (r := .bool r11) (ArgsOk.dt (ArgsOk.dt ArgsOk.nil')) (c_ref32_Same hr11) ?_
          refine step (v := .d (.bool r11)) (st_pickT (b := ((r8.2 == 0) == r9.2)) rfl hg10 rfl) ?_
          refine step (v := .d (.bool r11)) rfl ?_
          have hh := Option.some.inj hv
          subst hh
          exact RunOps.nil' (Norm.mk [] (by decide) (by decide) (by decide) ⟨.d _, trivial⟩ trivial)
        · replace hv := iteF hg10 hv
          refine stepX (c := ((r8.2 == 0) == r9.2)) rfl hg10 ?_
          refine stepX (c := ((r8.2 == 0) == r9.2)) rfl hg10 ?_
          refine stepX (c := ((r8.2 == 0) == r9.2)) rfl hg10 ?_
          refine step (v := .d (.bool false)) (st_pickF (b := ((r8.2 == 0) == r9.2)) rfl hg10 rfl) ?_
          refine step (v := .d (.bool false)) rfl ?_
          have hh := Option.some.inj hv
          subst hh
          exact RunOps.nil' (Norm.mk [] (by decide) (by decide) (by decide) ⟨.d _, trivial⟩ trivial)
      have hh := Option.some.inj h
      subst hh
      refine NWp.ret ?_
      show FQ _ _ _ _
      exact FQ.mk1 (.inr rfl) (res_t (v := .d (.bool y12)) rfl rfl) (RV.d trivial)

theorem c_packet_To {a0 : (A8 Int)} {a1 : api_Port} {r : (A8 Int)} (h : packet_To a0 a1 = some r) : PCall Try.prog 58 [eA8 (D.int .u16) a0, eapi_Port a1] (eA8 (D.int .u16) r) := by
  refine PCall.introN ok58 (show 2 ≤ 12 by decide) ?_
  refine NWp.norm (s0 := ⟨tab [(0, .d (eA8 (D.int .u16) a0)), (1, .d (eapi_Port a1))], stab [], 0⟩) (Norm.mk [] (by decide) (by decide) (by decide) ⟨.d _, .d _, trivial⟩ trivial) ?_
  refine NWp.opsJ ⟨tab [(2, .ptr 0 0 0), (3, .d (.cptr (some 2) (eapi_Port a1) 0)), (4, .ptr 1 0 0)], stab [(0, .var [.d (.int .u16 a0.a0), .d (.int .u16 a0.a1), .d (.int .u16 a0.a2), .d (.int .u16 a0.a3), .d (.int .u16 a0.a4), .d (.int .u16 a0.a5), .d (.int .u16 a0.a6), .d (.int .u16 a0.a7)]), (1, .var [.d (.int .u16 0), .d (.int .u16 0), .d (.int .u16 0), .d (.int .u16 0), .d (.int .u16 0), .d (.int .u16 0), .d (.int .u16 0), .d (.int .u16 0)])], 2⟩ ?_ ?_
  · refine step (v := .ptr 0 0 0) (σ' := (upd (stab []) 0 (some (.var [.d (.int .u16 a0.a0), .d (.int .u16 a0.a1), .d (.int .u16 a0.a2), .d (.int .u16 a0.a3), .d (.int .u16 a0.a4), .d (.int .u16 a0.a5), .d (.int .u16 a0.a6), .d (.int .u16 a0.a7)])))) (n' := 1) rfl ?_
    refine step (v := .d (.cptr (some 2) (eapi_Port a1) 0)) rfl ?_
    refine step (v := .ptr 1 0 0) (σ' := (upd (upd (stab []) 0 (some (.var [.d (.int .u16 a0.a0), .d (.int .u16 a0.a1), .d (.int .u16 a0.a2), .d (.int .u16 a0.a3), .d (.int .u16 a0.a4), .d (.int .u16 a0.a5), .d (.int .u16 a0.a6), .d (.int .u16 a0.a7)]))) 1 (some (.var [.d (.int .u16 0), .d (.int .u16 0), .d (.int .u16 0), .d (.int .u16 0), .d (.int .u16 0), .d (.int .u16 0), .d (.int .u16 0), .d (.int .u16 0)])))) (n' := 2) rfl ?_
    exact RunOps.nil' (Norm.mk [0, 1] (by decide) (by decide) (by decide) ⟨.ptr 0 _ _ (show 0 < 2 by decide), .d _, .ptr 1 _ _ (show 1 < 2 by decide), trivial⟩ ⟨⟨show 0 < 2 by decide, _, rfl, .vars ⟨.d _, .d _, .d _, .d _, .d _, .d _, .d _, .d _, trivial⟩⟩, ⟨show 1 < 2 by decide, _, rfl, .vars ⟨.d _, .d _, .d _, .d _, .d _, .d _, .d _, .d _, trivial⟩⟩, trivial⟩)
  refine NWp.opsJ ⟨tab [(2, .ptr 0 0 0), (4, .ptr 1 0 0)], stab [(0, .var [.d (.int .u16 a1.Sw), .d (.int .u16 a1.Pt), .d (.int .u16 a0.a2), .d (.int .u16 a0.a3), .d (.int .u16 a0.a4), .d (.int .u16 a0.a5), .d (.int .u16 a0.a6), .d (.int .u16 a0.a7)]), (1, .var [.d (.int .u16 0), .d (.int .u16 0), .d (.int .u16 0), .d (.int .u16 0), .d (.int .u16 0), .d (.int .u16 0), .d (.int .u16 0), .d (.int .u16 0)])], 2⟩ ?_ ?_
  · refine step (v := .d (.cptr (some 2) (eapi_Port a1) 0)) rfl ?_
    refine step (v := .d (.int .u16 a1.Sw)) rfl ?_
    refine step (v := .d (.cptr (some 2) (eapi_Port a1) 1)) rfl ?_
    refine step (v := .d (.int .u16 a1.Pt)) rfl ?_
    refine step (v := .ptr 0 0 0) rfl ?_
    refine step (v := V.undef) (σ' := (upd (stab [(0, .var [.d (.int .u16 a0.a0), .d (.int .u16 a0.a1), .d (.int .u16 a0.a2), .d (.int .u16 a0.a3), .d (.int .u16 a0.a4), .d (.int .u16 a0.a5), .d (.int .u16 a0.a6), .d (.int .u16 a0.a7)]), (1, .var [.d (.int .u16 0), .d (.int .u16 0), .d (.int .u16 0), .d (.int .u16 0), .d (.int .u16 0), .d (.int .u16 0), .d (.int .u16 0), .d (.int .u16 0)])]) 0 (some (.var [.d (.int .u16 a1.Sw), .d (.int .u16 a0.a1), .d (.int .u16 a0.a2), .d (.int .u16 a0.a3), .d (.int .u16 a0.a4), .d (.int .u16 a0.a5), .d (.int .u16 a0.a6), .d (.int .u16 a0.a7)])))) (n' := 2) rfl ?_
    refine step (v := .ptr 0 0 1) rfl ?_
    refine step (v := V.undef) (σ' := (upd (upd (stab [(0, .var [.d (.int .u16 a0.a0), .d (.int .u16 a0.a1), .d (.int .u16 a0.a2), .d (.int .u16 a0.a3), .d (.int .u16 a0.a4), .d (.int .u16 a0.a5), .d (.int .u16 a0.a6), .d (.int .u16 a0.a7)]), (1, .var [.d (.int .u16 0), .d (.int .u16 0), .d (.int .u16 0), .d (.int .u16 0), .d (.int .u16 0), .d (.int .u16 0), .d (.int .u16 0), .d (.int .u16 0)])]) 0 (some (.var [.d (.int .u16 a1.Sw), .d (.int .u16 a0.a1), .d (.int .u16 a0.a2), .d (.int .u16 a0.a3), .d (.int .u16 a0.a4), .d (.int .u16 a0.a5), .d (.int .u16 a0.a6), .d (.int .u16 a0.a7)]))) 0 (some (.var [.d (.int .u16 a1.Sw), .d (.int .u16 a1.Pt), .d (.int .u16 a0.a2), .d (.int .u16 a0.a3), .d (.int .u16 a0.a4), .d (.int .u16 a0.a5), .d (.int .u16 a0.a6), .d (.int .u16 a0.a7)])))) (n' := 2) rfl ?_
    exact RunOps.nil' (Norm.mk [0, 1] (by decide) (by decide) (by decide) ⟨.ptr 0 _ _ (show 0 < 2 by decide), .ptr 1 _ _ (show 1 < 2 by decide), trivial⟩ ⟨⟨show 0 < 2 by decide, _, rfl, .vars ⟨.d _, .d _, .d _, .d _, .d _, .d _, .d _, .d _, trivial⟩⟩, ⟨show 1 < 2 by decide, _, rfl, .vars ⟨.d _, .d _, .d _, .d _, .d _, .d _, .d _, .d _, trivial⟩⟩, trivial⟩)
  refine NWp.opsJ ⟨tab [(4, .ptr 0 0 0)], stab [(0, .var [.d (.int .u16 a1.Sw), .d (.int .u16 a1.Pt), .d (.int .u16 a0.a2), .d (.int .u16 a0.a3), .d (.int .u16 a0.a4), .d (.int .u16 a0.a5), .d (.int .u16 a0.a6), .d (.int .u16 a0.a7)])], 1⟩ ?_ ?_
  · refine step (v := .d (eA8 (D.int .u16) (A8.mk a1.Sw a1.Pt a0.a2 a0.a3 a0.a4 a0.a5 a0.a6 a0.a7))) (st_ldV (ds := [.int .u16 a1.Sw, .int .u16 a1.Pt, .int .u16 a0.a2, .int .u16 a0.a3, .int .u16 a0.a4, .int .u16 a0.a5, .int .u16 a0.a6, .int .u16 a0.a7]) rfl rfl (show 8 ≤ 8 by decide) rfl) ?_
    refine step (v := V.undef) (σ' := (upd (stab [(0, .var [.d (.int .u16 a1.Sw), .d (.int .u16 a1.Pt), .d (.int .u16 a0.a2), .d (.int .u16 a0.a3), .d (.int .u16 a0.a4), .d (.int .u16 a0.a5), .d (.int .u16 a0.a6), .d (.int .u16 a0.a7)]), (1, .var [.d (.int .u16 0), .d (.int .u16 0), .d (.int .u16 0), .d (.int .u16 0), .d (.int .u16 0), .d (.int .u16 0), .d (.int .u16 0), .d (.int .u16 0)])]) 1 (some (.var [.d (.int .u16 a1.Sw), .d (.int .u16 a1.Pt), .d (.int .u16 a0.a2), .d (.int .u16 a0.a3), .d (.int .u16 a0.a4), .d (.int .u16 a0.a5), .d (.int .u16 a0.a6), .d (.int .u16 a0.a7)])))) (n' := 2) rfl ?_
    exact RunOps.nil' (Norm.mk [1] (by decide) (by decide) (by decide) ⟨.ptr 0 _ _ (show 0 < 1 by decide), trivial⟩ ⟨⟨show 0 < 1 by decide, _, rfl, .vars ⟨.d _, .d _, .d _, .d _, .d _, .d _, .d _, .d _, trivial⟩⟩, trivial⟩)
  have hh := Option.some.inj h
  subst hh
  refine NWp.ret ?_
  show FQ _ _ _ _
  exact FQ.mk1 (.inr rfl) (res_cell (ds := [.int .u16 a1.Sw, .int .u16 a1.Pt, .int .u16 a0.a2, .int .u16 a0.a3, .int .u16 a0.a4, .int .u16 a0.a5, .int .u16 a0.a6, .int .u16 a0.a7]) rfl rfl (show 8 ≤ 8 by decide) rfl rfl) (RV.d trivial)

theorem c_save_Clean {a0 : api_Deed} {r : api_Deed} (h : save_Clean a0 = some r) : PCall Try.prog 19 [eapi_Deed a0] (eapi_Deed r) := by
  refine PCall.introN ok19 (show 1 ≤ 29 by decide) ?_
  refine NWp.norm (s0 := ⟨tab [(0, .d (eapi_Deed a0))], stab [], 0⟩) (Norm.mk [] (by decide) (by decide) (by decide) ⟨.d _, trivial⟩ trivial) ?_
  refine NWp.opsJ ⟨tab [(1, .ptr 0 0 0), (2, .ptr 1 0 0)], stab [(0, .var [.d (.int .i64 a0.What), .d (.int .i64 a0.N), .d (.bool a0.Back), .d (.int .u16 a0.P.a0), .d (.int .u16 a0.P.a1), .d (.int .u16 a0.P.a2), .d (.int .u16 a0.P.a3), .d (.int .u16 a0.P.a4), .d (.int .u16 a0.P.a5), .d (.int .u16 a0.P.a6), .d (.int .u16 a0.P.a7), .d (.str a0.Raw)]), (1, .var [.d (.int .i64 0), .d (.int .i64 0), .d (.bool false), .d (.int .u16 0), .d (.int .u16 0), .d (.int .u16 0), .d (.int .u16 0), .d (.int .u16 0), .d (.int .u16 0), .d (.int .u16 0), .d (.int .u16 0), .d (.str (⟨#[]⟩ : ByteArray))])], 2⟩ ?_ ?_
  · refine step (v := .ptr 0 0 0) (σ' := (upd (stab []) 0 (some (.var [.d (.int .i64 a0.What), .d (.int .i64 a0.N), .d (.bool a0.Back), .d (.int .u16 a0.P.a0), .d (.int .u16 a0.P.a1), .d (.int .u16 a0.P.a2), .d (.int .u16 a0.P.a3), .d (.int .u16 a0.P.a4), .d (.int .u16 a0.P.a5), .d (.int .u16 a0.P.a6), .d (.int .u16 a0.P.a7), .d (.str a0.Raw)])))) (n' := 1) rfl ?_
    refine step (v := .ptr 1 0 0) (σ' := (upd (upd (stab []) 0 (some (.var [.d (.int .i64 a0.What), .d (.int .i64 a0.N), .d (.bool a0.Back), .d (.int .u16 a0.P.a0), .d (.int .u16 a0.P.a1), .d (.int .u16 a0.P.a2), .d (.int .u16 a0.P.a3), .d (.int .u16 a0.P.a4), .d (.int .u16 a0.P.a5), .d (.int .u16 a0.P.a6), .d (.int .u16 a0.P.a7), .d (.str a0.Raw)]))) 1 (some (.var [.d (.int .i64 0), .d (.int .i64 0), .d (.bool false), .d (.int .u16 0), .d (.int .u16 0), .d (.int .u16 0), .d (.int .u16 0), .d (.int .u16 0), .d (.int .u16 0), .d (.int .u16 0), .d (.int .u16 0), .d (.str (⟨#[]⟩ : ByteArray))])))) (n' := 2) rfl ?_
    exact RunOps.nil' (Norm.mk [0, 1] (by decide) (by decide) (by decide) ⟨.ptr 0 _ _ (show 0 < 2 by decide), .ptr 1 _ _ (show 1 < 2 by decide), trivial⟩ ⟨⟨show 0 < 2 by decide, _, rfl, .vars ⟨.d _, .d _, .d _, .d _, .d _, .d _, .d _, .d _, .d _, .d _, .d _, .d _, trivial⟩⟩, ⟨show 1 < 2 by decide, _, rfl, .vars ⟨.d _, .d _, .d _, .d _, .d _, .d _, .d _, .d _, .d _, .d _, .d _, .d _, trivial⟩⟩, trivial⟩)
  obtain ⟨r1, hr1, h⟩ := bindE h
  refine NWp.opsJ ⟨tab [(1, .ptr 0 0 0), (2, .ptr 1 0 0), (3, .ptr 2 0 0)], stab [(0, .var [.d (.int .i64 a0.What), .d (.int .i64 a0.N), .d (.bool a0.Back), .d (.int .u16 a0.P.a0), .d (.int .u16 a0.P.a1), .d (.int .u16 a0.P.a2), .d (.int .u16 a0.P.a3), .d (.int .u16 a0.P.a4), .d (.int .u16 a0.P.a5), .d (.int .u16 a0.P.a6), .d (.int .u16 a0.P.a7), .d (.str a0.Raw)]), (1, .var [.d (.int .i64 0), .d (.int .i64 0), .d (.bool false), .d (.int .u16 0), .d (.int .u16 0), .d (.int .u16 0), .d (.int .u16 0), .d (.int .u16 0), .d (.int .u16 0), .d (.int .u16 0), .d (.int .u16 0), .d (.str (⟨#[]⟩ : ByteArray))]), (2, .var [.d (.bool r1.packet), .d (.bool r1.raw), .d (.bool r1.back)])], 3⟩ ?_ ?_
  · refine step (v := .ptr 0 0 0) rfl ?_
    refine step (v := .d (.int .i64 a0.What)) rfl ?_
    refine stepC (r := esave_tells r1) (ArgsOk.dt ArgsOk.nil') (c_save_of hr1) ?_
    refine step (v := .ptr 2 0 0) (σ' := (upd (stab [(0, .var [.d (.int .i64 a0.What), .d (.int .i64 a0.N), .d (.bool a0.Back), .d (.int .u16 a0.P.a0), .d (.int .u16 a0.P.a1), .d (.int .u16 a0.P.a2), .d (.int .u16 a0.P.a3), .d (.int .u16 a0.P.a4), .d (.int .u16 a0.P.a5), .d (.int .u16 a0.P.a6), .d (.int .u16 a0.P.a7), .d (.str a0.Raw)]), (1, .var [.d (.int .i64 0), .d (.int .i64 0), .d (.bool false), .d (.int .u16 0), .d (.int .u16 0), .d (.int .u16 0), .d (.int .u16 0), .d (.int .u16 0), .d (.int .u16 0), .d (.int .u16 0), .d (.int .u16 0), .d (.str (⟨#[]⟩ : ByteArray))])]) 2 (some (.var [.d (.bool false), .d (.bool false), .d (.bool false)])))) (n' := 3) rfl ?_
    refine step (v := V.undef) (σ' := (upd (upd (stab [(0, .var [.d (.int .i64 a0.What), .d (.int .i64 a0.N), .d (.bool a0.Back), .d (.int .u16 a0.P.a0), .d (.int .u16 a0.P.a1), .d (.int .u16 a0.P.a2), .d (.int .u16 a0.P.a3), .d (.int .u16 a0.P.a4), .d (.int .u16 a0.P.a5), .d (.int .u16 a0.P.a6), .d (.int .u16 a0.P.a7), .d (.str a0.Raw)]), (1, .var [.d (.int .i64 0), .d (.int .i64 0), .d (.bool false), .d (.int .u16 0), .d (.int .u16 0), .d (.int .u16 0), .d (.int .u16 0), .d (.int .u16 0), .d (.int .u16 0), .d (.int .u16 0), .d (.int .u16 0), .d (.str (⟨#[]⟩ : ByteArray))])]) 2 (some (.var [.d (.bool false), .d (.bool false), .d (.bool false)]))) 2 (some (.var [.d (.bool r1.packet), .d (.bool r1.raw), .d (.bool r1.back)])))) (n' := 3) rfl ?_
    exact RunOps.nil' (Norm.mk [0, 1, 2] (by decide) (by decide) (by decide) ⟨.ptr 0 _ _ (show 0 < 3 by decide), .ptr 1 _ _ (show 1 < 3 by decide), .ptr 2 _ _ (show 2 < 3 by decide), trivial⟩ ⟨⟨show 0 < 3 by decide, _, rfl, .vars ⟨.d _, .d _, .d _, .d _, .d _, .d _, .d _, .d _, .d _, .d _, .d _, .d _, trivial⟩⟩, ⟨show 1 < 3 by decide, _, rfl, .vars ⟨.d _, .d _, .d _, .d _, .d _, .d _, .d _, .d _, .d _, .d _, .d _, .d _, trivial⟩⟩, ⟨show 2 < 3 by decide, _, rfl, .vars ⟨.d _, .d _, .d _, trivial⟩⟩, trivial⟩)
  obtain ⟨y3, hv, h⟩ := bindE h
  refine NWp.seqN ⟨tab [(1, .ptr 0 0 0), (2, .ptr 1 0 0), (3, .ptr 2 0 0)], stab [(0, .var [.d (.int .i64 y3.What), .d (.int .i64 y3.N), .d (.bool y3.Back), .d (.int .u16 y3.P.a0), .d (.int .u16 y3.P.a1), .d (.int .u16 y3.P.a2), .d (.int .u16 y3.P.a3), .d (.int .u16 y3.P.a4), .d (.int .u16 y3.P.a5), .d (.int .u16 y3.P.a6), .d (.int .u16 y3.P.a7), .d (.str y3.Raw)]), (1, .var [.d (.int .i64 0), .d (.int .i64 0), .d (.bool false), .d (.int .u16 0), .d (.int .u16 0), .d (.int .u16 0), .d (.int .u16 0), .d (.int .u16 0), .d (.int .u16 0), .d (.int .u16 0), .d (.int .u16 0), .d (.str (⟨#[]⟩ : ByteArray))]), (2, .var [.d (.bool r1.packet), .d (.bool r1.raw), .d (.bool r1.back)])], 3⟩ ?_ ?_
  · replace h := hv
    refine NWp.opsJ ⟨tab [(1, .ptr 0 0 0), (2, .ptr 1 0 0), (3, .ptr 2 0 0), (9, .d (.bool (!r1.packet)))], stab [(0, .var [.d (.int .i64 a0.What), .d (.int .i64 a0.N), .d (.bool a0.Back), .d (.int .u16 a0.P.a0), .d (.int .u16 a0.P.a1), .d (.int .u16 a0.P.a2), .d (.int .u16 a0.P.a3), .d (.int .u16 a0.P.a4), .d (.int .u16 a0.P.a5), .d (.int .u16 a0.P.a6), .d (.int .u16 a0.P.a7), .d (.str a0.Raw)]), (1, .var [.d (.int .i64 0), .d (.int .i64 0), .d (.bool false), .d (.int .u16 0), .d (.int .u16 0), .d (.int .u16 0), .d (.int .u16 0), .d (.int .u16 0), .d (.int .u16 0), .d (.int .u16 0), .d (.int .u16 0), .d (.str (⟨#[]⟩ : ByteArray))]), (2, .var [.d (.bool r1.packet), .d (.bool r1.raw), .d (.bool r1.back)])], 3⟩ ?_ ?_
    · refine step (v := .ptr 2 0 0) rfl ?_
      refine step (v := .d (.bool r1.packet)) rfl ?_
      refine step (v := .d (.bool (!r1.packet))) rfl ?_
      exact RunOps.nil' (Norm.mk [0, 1, 2] (by decide) (by decide) (by decide) ⟨.ptr 0 _ _ (show 0 < 3 by decide), .ptr 1 _ _ (show 1 < 3 by decide), .ptr 2 _ _ (show 2 < 3 by decide), .d _, trivial⟩ ⟨⟨show 0 < 3 by decide, _, rfl, .vars ⟨.d _, .d _, .d _, .d _, .d _, .d _, .d _, .d _, .d _, .d _, .d _, .d _, trivial⟩⟩, ⟨show 1 < 3 by decide, _, rfl, .vars ⟨.d _, .d _, .d _, .d _, .d _, .d _, .d _, .d _, .d _, .d _, .d _, .d _, trivial⟩⟩, ⟨show 2 < 3 by decide, _, rfl, .vars ⟨.d _, .d _, .d _, trivial⟩⟩, trivial⟩)
    by_cases hc2 : (!r1.packet) = true
    · replace h := iteT hc2 h
      refine NWp.condT (t := (!r1.packet)) rfl hc2 ?_
      have hh := Option.some.inj h
      subst hh
      refine NWp.opsE ⟨tab [(1, .ptr 0 0 0), (2, .ptr 1 0 0), (3, .ptr 2 0 0)], stab [(0, .var [.d (.int .i64 ((api_Deed.mk a0.What a0.N a0.Back (A8.mk 0 0 0 0 0 0 0 0) a0.Raw).What)), .d (.int .i64 ((api_Deed.mk a0.What a0.N a0.Back (A8.mk 0 0 0 0 0 0 0 0) a0.Raw).N)), .d (.bool ((api_Deed.mk a0.What a0.N a0.Back (A8.mk 0 0 0 0 0 0 0 0) a0.Raw).Back)), .d (.int .u16 ((api_Deed.mk a0.What a0.N a0.Back (A8.mk 0 0 0 0 0 0 0 0) a0.Raw).P.a0)), .d (.int .u16 ((api_Deed.mk a0.What a0.N a0.Back (A8.mk 0 0 0 0 0 0 0 0) a0.Raw).P.a1)), .d (.int .u16 ((api_Deed.mk a0.What a0.N a0.Back (A8.mk 0 0 0 0 0 0 0 0) a0.Raw).P.a2)), .d (.int .u16 ((api_Deed.mk a0.What a0.N a0.Back (A8.mk 0 0 0 0 0 0 0 0) a0.Raw).P.a3)), .d (.int .u16 ((api_Deed.mk a0.What a0.N a0.Back (A8.mk 0 0 0 0 0 0 0 0) a0.Raw).P.a4)), .d (.int .u16 ((api_Deed.mk a0.What a0.N a0.Back (A8.mk 0 0 0 0 0 0 0 0) a0.Raw).P.a5)), .d (.int .u16 ((api_Deed.mk a0.What a0.N a0.Back (A8.mk 0 0 0 0 0 0 0 0) a0.Raw).P.a6)), .d (.int .u16 ((api_Deed.mk a0.What a0.N a0.Back (A8.mk 0 0 0 0 0 0 0 0) a0.Raw).P.a7)), .d (.str ((api_Deed.mk a0.What a0.N a0.Back (A8.mk 0 0 0 0 0 0 0 0) a0.Raw).Raw))]), (1, .var [.d (.int .i64 0), .d (.int .i64 0), .d (.bool false), .d (.int .u16 0), .d (.int .u16 0), .d (.int .u16 0), .d (.int .u16 0), .d (.int .u16 0), .d (.int .u16 0), .d (.int .u16 0), .d (.int .u16 0), .d (.str (⟨#[]⟩ : ByteArray))]), (2, .var [.d (.bool r1.packet), .d (.bool r1.raw), .d (.bool r1.back)])], 3⟩ ?_ ?_
      · refine step (v := .d (eA8 (D.int .u16) (A8.mk 0 0 0 0 0 0 0 0))) (st_build (ds := [.int .u16 0, .int .u16 0, .int .u16 0, .int .u16 0, .int .u16 0, .int .u16 0, .int .u16 0, .int .u16 0]) rfl) ?_
        refine step (v := .ptr 0 0 3) rfl ?_
        refine step (v := V.undef) (σ' := (upd (stab [(0, .var [.d (.int .i64 a0.What), .d (.int .i64 a0.N), .d (.bool a0.Back), .d (.int .u16 a0.P.a0), .d (.int .u16 a0.P.a1), .d (.int .u16 a0.P.a2), .d (.int .u16 a0.P.a3), .d (.int .u16 a0.P.a4), .d (.int .u16 a0.P.a5), .d (.int .u16 a0.P.a6), .d (.int .u16 a0.P.a7), .d (.str a0.Raw)]), (1, .var [.d (.int .i64 0), .d (.int .i64 0), .d (.bool false), .d (.int .u16 0), .d (.int .u16 0), .d (.int .u16 0), .d (.int .u16 0), .d (.int .u16 0), .d (.int .u16 0), .d (.int .u16 0), .d (.int .u16 0), .d (.str (⟨#[]⟩ : ByteArray))]), (2, .var [.d (.bool r1.packet), .d (.bool r1.raw), .d (.bool r1.back)])]) 0 (some (.var [.d (.int .i64 a0.What), .d (.int .i64 a0.N), .d (.bool a0.Back), .d (.int .u16 0), .d (.int .u16 0), .d (.int .u16 0), .d (.int .u16 0), .d (.int .u16 0), .d (.int .u16 0), .d (.int .u16 0), .d (.int .u16 0), .d (.str a0.Raw)])))) (n' := 3) rfl ?_
        exact RunOps.nil' (Norm.mk [0, 1, 2] (by decide) (by decide) (by decide) ⟨.ptr 0 _ _ (show 0 < 3 by decide), .ptr 1 _ _ (show 1 < 3 by decide), .ptr 2 _ _ (show 2 < 3 by decide), trivial⟩ ⟨⟨show 0 < 3 by decide, _, rfl, .vars ⟨.d _, .d _, .d _, .d _, .d _, .d _, .d _, .d _, .d _, .d _, .d _, .d _, trivial⟩⟩, ⟨show 1 < 3 by decide, _, rfl, .vars ⟨.d _, .d _, .d _, .d _, .d _, .d _, .d _, .d _, .d _, .d _, .d _, .d _, trivial⟩⟩, ⟨show 2 < 3 by decide, _, rfl, .vars ⟨.d _, .d _, .d _, trivial⟩⟩, trivial⟩)
      exact And.intro rfl rfl
    · replace h := iteF hc2 h
      refine NWp.condF (t := (!r1.packet)) rfl hc2 ?_
      have hh := Option.some.inj h
      subst hh
      refine NWp.norm (s0 := ⟨tab [(1, .ptr 0 0 0), (2, .ptr 1 0 0), (3, .ptr 2 0 0)], stab [(0, .var [.d (.int .i64 a0.What), .d (.int .i64 a0.N), .d (.bool a0.Back), .d (.int .u16 a0.P.a0), .d (.int .u16 a0.P.a1), .d (.int .u16 a0.P.a2), .d (.int .u16 a0.P.a3), .d (.int .u16 a0.P.a4), .d (.int .u16 a0.P.a5), .d (.int .u16 a0.P.a6), .d (.int .u16 a0.P.a7), .d (.str a0.Raw)]), (1, .var [.d (.int .i64 0), .d (.int .i64 0), .d (.bool false), .d (.int .u16 0), .d (.int .u16 0), .d (.int .u16 0), .d (.int .u16 0), .d (.int .u16 0), .d (.int .u16 0), .d (.int .u16 0), .d (.int .u16 0), .d (.str (⟨#[]⟩ : ByteArray))]), (2, .var [.d (.bool r1.packet), .d (.bool r1.raw), .d (.bool r1.back)])], 3⟩) (Norm.mk [0, 1, 2] (by decide) (by decide) (by decide) ⟨.ptr 0 _ _ (show 0 < 3 by decide), .ptr 1 _ _ (show 1 < 3 by decide), .ptr 2 _ _ (show 2 < 3 by decide), trivial⟩ ⟨⟨show 0 < 3 by decide, _, rfl, .vars ⟨.d _, .d _, .d _, .d _, .d _, .d _, .d _, .d _, .d _, .d _, .d _, .d _, trivial⟩⟩, ⟨show 1 < 3 by decide, _, rfl, .vars ⟨.d _, .d _, .d _, .d _, .d _, .d _, .d _, .d _, .d _, .d _, .d _, .d _, trivial⟩⟩, ⟨show 2 < 3 by decide, _, rfl, .vars ⟨.d _, .d _, .d _, trivial⟩⟩, trivial⟩) ?_
      refine NWp.skip ?_
      exact And.intro rfl rfl
  obtain ⟨y6, hv, h⟩ := bindE h
  refine NWp.seqN ⟨tab [(1, .ptr 0 0 0), (2, .ptr 1 0 0), (3, .ptr 2 0 0)], stab [(0, .var [.d (.int .i64 y6.What), .d (.int .i64 y6.N), .d (.bool y6.Back), .d (.int .u16 y6.P.a0), .d (.int .u16 y6.P.a1), .d (.int .u16 y6.P.a2), .d (.int .u16 y6.P.a3), .d (.int .u16 y6.P.a4), .d (.int .u16 y6.P.a5), .d (.int .u16 y6.P.a6), .d (.int .u16 y6.P.a7), .d (.str y6.Raw)]), (1, .var [.d (.int .i64 0), .d (.int .i64 0), .d (.bool false), .d (.int .u16 0), .d (.int .u16 0), .d (.int .u16 0), .d (.int .u16 0), .d (.int .u16 0), .d (.int .u16 0), .d (.int .u16 0), .d (.int .u16 0), .d (.str (⟨#[]⟩ : ByteArray))]), (2, .var [.d (.bool r1.packet), .d (.bool r1.raw), .d (.bool r1.back)])], 3⟩ ?_ ?_
  · replace h := hv
    refine NWp.opsJ ⟨tab [(1, .ptr 0 0 0), (2, .ptr 1 0 0), (3, .ptr 2 0 0), (14, .d (.bool (!r1.raw)))], stab [(0, .var [.d (.int .i64 y3.What), .d (.int .i64 y3.N), .d (.bool y3.Back), .d (.int .u16 y3.P.a0), .d (.int .u16 y3.P.a1), .d (.int .u16 y3.P.a2), .d (.int .u16 y3.P.a3), .d (.int .u16 y3.P.a4), .d (.int .u16 y3.P.a5), .d (.int .u16 y3.P.a6), .d (.int .u16 y3.P.a7), .d (.str y3.Raw)]), (1, .var [.d (.int .i64 0), .d (.int .i64 0), .d (.bool false), .d (.int .u16 0), .d (.int .u16 0), .d (.int .u16 0), .d (.int .u16 0), .d (.int .u16 0), .d (.int .u16 0), .d (.int .u16 0), .d (.int .u16 0), .d (.str (⟨#[]⟩ : ByteArray))]), (2, .var [.d (.bool r1.packet), .d (.bool r1.raw), .d (.bool r1.back)])], 3⟩ ?_ ?_
    · refine step (v := .ptr 2 0 1) rfl ?_
      refine step (v := .d (.bool r1.raw)) rfl ?_
      refine step (v := .d (.bool (!r1.raw))) rfl ?_
      exact RunOps.nil' (Norm.mk [0, 1, 2] (by decide) (by decide) (by decide) ⟨.ptr 0 _ _ (show 0 < 3 by decide), .ptr 1 _ _ (show 1 < 3 by decide), .ptr 2 _ _ (show 2 < 3 by decide), .d _, trivial⟩ ⟨⟨show 0 < 3 by decide, _, rfl, .vars ⟨.d _, .d _, .d _, .d _, .d _, .d _, .d _, .d _, .d _, .d _, .d _, .d _, trivial⟩⟩, ⟨show 1 < 3 by decide, _, rfl, .vars ⟨.d _, .d _, .d _, .d _, .d _, .d _, .d _, .d _, .d _, .d _, .d _, .d _, trivial⟩⟩, ⟨show 2 < 3 by decide, _, rfl, .vars ⟨.d _, .d _, .d _, trivial⟩⟩, trivial⟩)
    by_cases hc5 : (!r1.raw) = true
    · replace h := iteT hc5 h
      refine NWp.condT (t := (!r1.raw)) rfl hc5 ?_
      have hh := Option.some.inj h
      subst hh
      refine NWp.opsE ⟨tab [(1, .ptr 0 0 0), (2, .ptr 1 0 0), (3, .ptr 2 0 0)], stab [(0, .var [.d (.int .i64 ((api_Deed.mk y3.What y3.N y3.Back y3.P (⟨#[]⟩ : ByteArray)).What)), .d (.int .i64 ((api_Deed.mk y3.What y3.N y3.Back y3.P (⟨#[]⟩ : ByteArray)).N)), .d (.bool ((api_Deed.mk y3.What y3.N y3.Back y3.P (⟨#[]⟩ : ByteArray)).Back)), .d (.int .u16 ((api_Deed.mk y3.What y3.N y3.Back y3.P (⟨#[]⟩ : ByteArray)).P.a0)), .d (.int .u16 ((api_Deed.mk y3.What y3.N y3.Back y3.P (⟨#[]⟩ : ByteArray)).P.a1)), .d (.int .u16 ((api_Deed.mk y3.What y3.N y3.Back y3.P (⟨#[]⟩ : ByteArray)).P.a2)), .d (.int .u16 ((api_Deed.mk y3.What y3.N y3.Back y3.P (⟨#[]⟩ : ByteArray)).P.a3)), .d (.int .u16 ((api_Deed.mk y3.What y3.N y3.Back y3.P (⟨#[]⟩ : ByteArray)).P.a4)), .d (.int .u16 ((api_Deed.mk y3.What y3.N y3.Back y3.P (⟨#[]⟩ : ByteArray)).P.a5)), .d (.int .u16 ((api_Deed.mk y3.What y3.N y3.Back y3.P (⟨#[]⟩ : ByteArray)).P.a6)), .d (.int .u16 ((api_Deed.mk y3.What y3.N y3.Back y3.P (⟨#[]⟩ : ByteArray)).P.a7)), .d (.str ((api_Deed.mk y3.What y3.N y3.Back y3.P (⟨#[]⟩ : ByteArray)).Raw))]), (1, .var [.d (.int .i64 0), .d (.int .i64 0), .d (.bool false), .d (.int .u16 0), .d (.int .u16 0), .d (.int .u16 0), .d (.int .u16 0), .d (.int .u16 0), .d (.int .u16 0), .d (.int .u16 0), .d (.int .u16 0), .d (.str (⟨#[]⟩ : ByteArray))]), (2, .var [.d (.bool r1.packet), .d (.bool r1.raw), .d (.bool r1.back)])], 3⟩ ?_ ?_
      · refine step (v := .ptr 0 0 11) rfl ?_
        refine step (v := V.undef) (σ' := (upd (stab [(0, .var [.d (.int .i64 y3.What), .d (.int .i64 y3.N), .d (.bool y3.Back), .d (.int .u16 y3.P.a0), .d (.int .u16 y3.P.a1), .d (.int .u16 y3.P.a2), .d (.int .u16 y3.P.a3), .d (.int .u16 y3.P.a4), .d (.int .u16 y3.P.a5), .d (.int .u16 y3.P.a6), .d (.int .u16 y3.P.a7), .d (.str y3.Raw)]), (1, .var [.d (.int .i64 0), .d (.int .i64 0), .d (.bool false), .d (.int .u16 0), .d (.int .u16 0), .d (.int .u16 0), .d (.int .u16 0), .d (.int .u16 0), .d (.int .u16 0), .d (.int .u16 0), .d (.int .u16 0), .d (.str (⟨#[]⟩ : ByteArray))]), (2, .var [.d (.bool r1.packet), .d (.bool r1.raw), .d (.bool r1.back)])]) 0 (some (.var [.d (.int .i64 y3.What), .d (.int .i64 y3.N), .d (.bool y3.Back), .d (.int .u16 y3.P.a0), .d (.int .u16 y3.P.a1), .d (.int .u16 y3.P.a2), .d (.int .u16 y3.P.a3), .d (.int .u16 y3.P.a4), .d (.int .u16 y3.P.a5), .d (.int .u16 y3.P.a6), .d (.int .u16 y3.P.a7), .d (.str (⟨#[]⟩ : ByteArray))])))) (n' := 3) rfl ?_
        exact RunOps.nil' (Norm.mk [0, 1, 2] (by decide) (by decide) (by decide) ⟨.ptr 0 _ _ (show 0 < 3 by decide), .ptr 1 _ _ (show 1 < 3 by decide), .ptr 2 _ _ (show 2 < 3 by decide), trivial⟩ ⟨⟨show 0 < 3 by decide, _, rfl, .vars ⟨.d _, .d _, .d _, .d _, .d _, .d _, .d _, .d _, .d _, .d _, .d _, .d _, trivial⟩⟩, ⟨show 1 < 3 by decide, _, rfl, .vars ⟨.d _, .d _, .d _, .d _, .d _, .d _, .d _, .d _, .d _, .d _, .d _, .d _, trivial⟩⟩, ⟨show 2 < 3 by decide, _, rfl, .vars ⟨.d _, .d _, .d _, trivial⟩⟩, trivial⟩)
      exact And.intro rfl rfl
    · replace h := iteF hc5 h
      refine NWp.condF (t := (!r1.raw)) rfl hc5 ?_
      have hh := Option.some.inj h
      subst hh
      refine NWp.norm (s0 := ⟨tab [(1, .ptr 0 0 0), (2, .ptr 1 0 0), (3, .ptr 2 0 0)], stab [(0, .var [.d (.int .i64 y3.What), .d (.int .i64 y3.N), .d (.bool y3.Back), .d (.int .u16 y3.P.a0), .d (.int .u16 y3.P.a1), .d (.int .u16 y3.P.a2), .d (.int .u16 y3.P.a3), .d (.int .u16 y3.P.a4), .d (.int .u16 y3.P.a5), .d (.int .u16 y3.P.a6), .d (.int .u16 y3.P.a7), .d (.str y3.Raw)]), (1, .var [.d (.int .i64 0), .d (.int .i64 0), .d (.bool false), .d (.int .u16 0), .d (.int .u16 0), .d (.int .u16 0), .d (.int .u16 0), .d (.int .u16 0), .d (.int .u16 0), .d (.int .u16 0), .d (.int .u16 0), .d (.str (⟨#[]⟩ : ByteArray))]), (2, .var [.d (.bool r1.packet), .d (.bool r1.raw), .d (.bool r1.back)])], 3⟩) (Norm.mk [0, 1, 2] (by decide) (by decide) (by decide) ⟨.ptr 0 _ _ (show 0 < 3 by decide), .ptr 1 _ _ (show 1 < 3 by decide), .ptr 2 _ _ (show 2 < 3 by decide), trivial⟩ ⟨⟨show 0 < 3 by decide, _, rfl, .vars ⟨.d _, .d _, .d _, .d _, .d _, .d _, .d _, .d _, .d _, .d _, .d _, .d _, trivial⟩⟩, ⟨show 1 < 3 by decide, _, rfl, .vars ⟨.d _, .d _, .d _, .d _, .d _, .d _, .d _, .d _, .d _, .d _, .d _, .d _, trivial⟩⟩, ⟨show 2 < 3 by decide, _, rfl, .vars ⟨.d _, .d _, .d _, trivial⟩⟩, trivial⟩) ?_
      refine NWp.skip ?_
      exact And.intro rfl rfl
  obtain ⟨r8, hr8, h⟩ := bindE h
  refine NWp.opsJ ⟨tab [(1, .ptr 0 0 0), (2, .ptr 1 0 0), (3, .ptr 2 0 0)], stab [(0, .var [.d (.int .i64 y6.What), .d (.int .i64 y6.N), .d (.bool y6.Back), .d (.int .u16 r8.a0), .d (.int .u16 r8.a1), .d (.int .u16 r8.a2), .d (.int .u16 r8.a3), .d (.int .u16 r8.a4), .d (.int .u16 r8.a5), .d (.int .u16 r8.a6), .d (.int .u16 r8.a7), .d (.str y6.Raw)]), (1, .var [.d (.int .i64 0), .d (.int .i64 0), .d (.bool false), .d (.int .u16 0), .d (.int .u16 0), .d (.int .u16 0), .d (.int .u16 0), .d (.int .u16 0), .d (.int .u16 0), .d (.int .u16 0), .d (.int .u16 0), .d (.str (⟨#[]⟩ : ByteArray))]), (2, .var [.d (.bool r1.packet), .d (.bool r1.raw), .d (.bool r1.back)])], 3⟩ ?_ ?_
  · refine step (v := .ptr 0 0 3) rfl ?_
    refine step (v := .d (eA8 (D.int .u16) y6.P)) (st_ldV (ds := [.int .u16 y6.P.a0, .int .u16 y6.P.a1, .int .u16 y6.P.a2, .int .u16 y6.P.a3, .int .u16 y6.P.a4, .int .u16 y6.P.a5, .int .u16 y6.P.a6, .int .u16 y6.P.a7]) rfl rfl (show 11 ≤ 12 by decide) rfl) ?_
    refine step (v := .d (eapi_Port (api_Port.mk 0 0))) (st_build (ds := [.int .u16 0, .int .u16 0]) rfl) ?_
    refine stepC (r := eA8 (D.int .u16) r8) (ArgsOk.dt (ArgsOk.dt ArgsOk.nil')) (c_packet_To hr8) ?_
    refine step (v := .ptr 0 0 3) rfl ?_
    refine step (v := V.undef) (σ' := (upd (stab [(0, .var [.d (.int .i64 y6.What), .d (.int .i64 y6.N), .d (.bool y6.Back), .d (.int .u16 y6.P.a0), .d (.int .u16 y6.P.a1), .d (.int .u16 y6.P.a2), .d (.int .u16 y6.P.a3), .d (.int .u16 y6.P.a4), .d (.int .u16 y6.P.a5), .d (.int .u16 y6.P.a6), .d (.int .u16 y6.P.a7), .d (.str y6.Raw)]), (1, .var [.d (.int .i64 0), .d (.int .i64 0), .d (.bool false), .d (.int .u16 0), .d (.int .u16 0), .d (.int .u16 0), .d (.int .u16 0), .d (.int .u16 0), .d (.int .u16 0), .d (.int .u16 0), .d (.int .u16 0), .d (.str (⟨#[]⟩ : ByteArray))]), (2, .var [.d (.bool r1.packet), .d (.bool r1.raw), .d (.bool r1.back)])]) 0 (some (.var [.d (.int .i64 y6.What), .d (.int .i64 y6.N), .d (.bool y6.Back), .d (.int .u16 r8.a0), .d (.int .u16 r8.a1), .d (.int .u16 r8.a2), .d (.int .u16 r8.a3), .d (.int .u16 r8.a4), .d (.int .u16 r8.a5), .d (.int .u16 r8.a6), .d (.int .u16 r8.a7), .d (.str y6.Raw)])))) (n' := 3) rfl ?_
    exact RunOps.nil' (Norm.mk [0, 1, 2] (by decide) (by decide) (by decide) ⟨.ptr 0 _ _ (show 0 < 3 by decide), .ptr 1 _ _ (show 1 < 3 by decide), .ptr 2 _ _ (show 2 < 3 by decide), trivial⟩ ⟨⟨show 0 < 3 by decide, _, rfl, .vars ⟨.d _, .d _, .d _, .d _, .d _, .d _, .d _, .d _, .d _, .d _, .d _, .d _, trivial⟩⟩, ⟨show 1 < 3 by decide, _, rfl, .vars ⟨.d _, .d _, .d _, .d _, .d _, .d _, .d _, .d _, .d _, .d _, .d _, .d _, trivial⟩⟩, ⟨show 2 < 3 by decide, _, rfl, .vars ⟨.d _, .d _, .d _, trivial⟩⟩, trivial⟩)
  refine NWp.opsJ ⟨tab [(1, .ptr 0 0 0), (2, .ptr 1 0 0)], stab [(0, .var [.d (.int .i64 ((if y6.Back then (api_Deed.mk y6.What y6.N r1.back r8 y6.Raw) else (api_Deed.mk y6.What y6.N false r8 y6.Raw)).What)), .d (.int .i64 ((if y6.Back then (api_Deed.mk y6.What y6.N r1.back r8 y6.Raw) else (api_Deed.mk y6.What y6.N false r8 y6.Raw)).N)), .d (.bool ((if y6.Back then (api_Deed.mk y6.What y6.N r1.back r8 y6.Raw) else (api_Deed.mk y6.What y6.N false r8 y6.Raw)).Back)), .d (.int .u16 (((if y6.Back then (api_Deed.mk y6.What y6.N r1.back r8 y6.Raw) else (api_Deed.mk y6.What y6.N false r8 y6.Raw)).P).a0)), .d (.int .u16 (((if y6.Back then (api_Deed.mk y6.What y6.N r1.back r8 y6.Raw) else (api_Deed.mk y6.What y6.N false r8 y6.Raw)).P).a1)), .d (.int .u16 (((if y6.Back then (api_Deed.mk y6.What y6.N r1.back r8 y6.Raw) else (api_Deed.mk y6.What y6.N false r8 y6.Raw)).P).a2)), .d (.int .u16 (((if y6.Back then (api_Deed.mk y6.What y6.N r1.back r8 y6.Raw) else (api_Deed.mk y6.What y6.N false r8 y6.Raw)).P).a3)), .d (.int .u16 (((if y6.Back then (api_Deed.mk y6.What y6.N r1.back r8 y6.Raw) else (api_Deed.mk y6.What y6.N false r8 y6.Raw)).P).a4)), .d (.int .u16 (((if y6.Back then (api_Deed.mk y6.What y6.N r1.back r8 y6.Raw) else (api_Deed.mk y6.What y6.N false r8 y6.Raw)).P).a5)), .d (.int .u16 (((if y6.Back then (api_Deed.mk y6.What y6.N r1.back r8 y6.Raw) else (api_Deed.mk y6.What y6.N false r8 y6.Raw)).P).a6)), .d (.int .u16 (((if y6.Back then (api_Deed.mk y6.What y6.N r1.back r8 y6.Raw) else (api_Deed.mk y6.What y6.N false r8 y6.Raw)).P).a7)), .d (.str ((if y6.Back then (api_Deed.mk y6.What y6.N r1.back r8 y6.Raw) else (api_Deed.mk y6.What y6.N false r8 y6.Raw)).Raw))]), (1, .var [.d (.int .i64 0), .d (.int .i64 0), .d (.bool false), .d (.int .u16 0), .d (.int .u16 0), .d (.int .u16 0), .d (.int .u16 0), .d (.int .u16 0), .d (.int .u16 0), .d (.int .u16 0), .d (.int .u16 0), .d (.str (⟨#[]⟩ : ByteArray))])], 2⟩ ?_ ?_
  · refine step (v := .ptr 0 0 2) rfl ?_
    refine step (v := .d (.bool y6.Back)) rfl ?_
    refine step (v := .d (.bool y6.Back)) rfl ?_
    by_cases hg9 : y6.Back = true
    · refine stepG (c := y6.Back) rfl hg9 ?_
      refine step (v := .ptr 2 0 2) rfl ?_
      refine stepG (c := y6.Back) rfl hg9 ?_
      refine step (v := .d (.bool r1.back)) rfl ?_
      refine step (v := .d (.bool r1.back)) (st_pickT (b := y6.Back) rfl hg9 rfl) ?_
      refine step (v := .ptr 0 0 2) rfl ?_
      refine step (v := V.undef) (σ' := (upd (stab [(0, .var [.d (.int .i64 y6.What), .d (.int .i64 y6.N), .d (.bool y6.Back), .d (.int .u16 r8.a0), .d (.int .u16 r8.a1), .d (.int .u16 r8.a2), .d (.int .u16 r8.a3), .d (.int .u16 r8.a4), .d (.int .u16 r8.a5), .d (.int .u16 r8.a6), .d (.int .u16 r8.a7), .d (.str y6.Raw)]), (1, .var [.d (.int .i64 0), .d (.int .i64 0), .d (.bool false), .d (.int .u16 0), .d (.int .u16 0), .d (.int .u16 0), .d (.int .u16 0), .d (.int .u16 0), .d (.int .u16 0), .d (.int .u16 0), .d (.int .u16 0), .d (.str (⟨#[]⟩ : ByteArray))]), (2, .var [.d (.bool r1.packet), .d (.bool r1.raw), .d (.bool r1.back)])]) 0 (some (.var [.d (.int .i64 y6.What), .d (.int .i64 y6.N), .d (.bool r1.back), .d (.int .u16 r8.a0), .d (.int .u16 r8.a1), .d (.int .u16 r8.a2), .d (.int .u16 r8.a3), .d (.int .u16 r8.a4), .d (.int .u16 r8.a5), .d (.int .u16 r8.a6), .d (.int .u16 r8.a7), .d (.str y6.Raw)])))) (n' := 3) rfl ?_
      exact RunOps.nil' (Norm.mk [0, 1] (by decide) (by decide) (by decide) ⟨.ptr 0 _ _ (show 0 < 2 by decide), .ptr 1 _ _ (show 1 < 2 by decide), trivial⟩ ⟨⟨show 0 < 2 by decide, _, rfl, .vars ⟨.eq (by simp [hg9]), .eq (by simp [hg9]), .eq (by simp [hg9]), .eq (by simp [hg9]), .eq (by simp [hg9]), .eq (by simp [hg9]), .eq (by simp [hg9]), .eq (by simp [hg9]), .eq (by simp [hg9]), .eq (by simp [hg9]), .eq (by simp [hg9]), .eq (by simp [hg9]), trivial⟩⟩, ⟨show 1 < 2 by decide, _, rfl, .vars ⟨.d _, .d _, .d _, .d _, .d _, .d _, .d _, .d _, .d _, .d _, .d _, .d _, trivial⟩⟩, trivial⟩)
    · refine stepX (c := y6.Back) rfl hg9 ?_
      refine stepX (c := y6.Back) rfl hg9 ?_
      refine step (v := .d (.bool false)) (st_pickF (b := y6.Back) rfl hg9 rfl) ?_
      refine step (v := .ptr 0 0 2) rfl ?_
      refine step (v := V.undef) (σ' := (upd (stab [(0, .var [.d (.int .i64 y6.What), .d (.int .i64 y6.N), .d (.bool y6.Back), .d (.int .u16 r8.a0), .d (.int .u16 r8.a1), .d (.int .u16 r8.a2), .d (.int .u16 r8.a3), .d (.int .u16 r8.a4), .d (.int .u16 r8.a5), .d (.int .u16 r8.a6), .d (.int .u16 r8.a7), .d (.str y6.Raw)]), (1, .var [.d (.int .i64 0), .d (.int .i64 0), .d (.bool false), .d (.int .u16 0), .d (.int .u16 0), .d (.int .u16 0), .d (.int .u16 0), .d (.int .u16 0), .d (.int .u16 0), .d (.int .u16 0), .d (.int .u16 0), .d (.str (⟨#[]⟩ : ByteArray))]), (2, .var [.d (.bool r1.packet), .d (.bool r1.raw), .d (.bool r1.back)])]) 0 (some (.var [.d (.int .i64 y6.What), .d (.int .i64 y6.N), .d (.bool false), .d (.int .u16 r8.a0), .d (.int .u16 r8.a1), .d (.int .u16 r8.a2), .d (.int .u16 r8.a3), .d (.int .u16 r8.a4), .d (.int .u16 r8.a5), .d (.int .u16 r8.a6), .d (.int .u16 r8.a7), .d (.str y6.Raw)])))) (n' := 3) rfl ?_
      exact RunOps.nil' (Norm.mk [0, 1] (by decide) (by decide) (by decide) ⟨.ptr 0 _ _ (show 0 < 2 by decide), .ptr 1 _ _ (show 1 < 2 by decide), trivial⟩ ⟨⟨show 0 < 2 by decide, _, rfl, .vars ⟨.eq (by simp [hg9]), .eq (by simp [hg9]), .eq (by simp [hg9]), .eq (by simp [hg9]), .eq (by simp [hg9]), .eq (by simp [hg9]), .eq (by simp [hg9]), .eq (by simp [hg9]), .eq (by simp [hg9]), .eq (by simp [hg9]), .eq (by simp [hg9]), .eq (by simp [hg9]), trivial⟩⟩, ⟨show 1 < 2 by decide, _, rfl, .vars ⟨.d _, .d _, .d _, .d _, .d _, .d _, .d _, .d _, .d _, .d _, .d _, .d _, trivial⟩⟩, trivial⟩)
  refine NWp.opsJ ⟨tab [(2, .ptr 0 0 0)], stab [(0, .var [.d (.int .i64 ((if y6.Back then (api_Deed.mk y6.What y6.N r1.back r8 y6.Raw) else (api_Deed.mk y6.What y6.N false r8 y6.Raw)).What)), .d (.int .i64 ((if y6.Back then (api_Deed.mk y6.What y6.N r1.back r8 y6.Raw) else (api_Deed.mk y6.What y6.N false r8 y6.Raw)).N)), .d (.bool ((if y6.Back then (api_Deed.mk y6.What y6.N r1.back r8 y6.Raw) else (api_Deed.mk y6.What y6.N false r8 y6.Raw)).Back)), .d (.int .u16 (((if y6.Back then (api_Deed.mk y6.What y6.N r1.back r8 y6.Raw) else (api_Deed.mk y6.What y6.N false r8 y6.Raw)).P).a0)), .d (.int .u16 (((if y6.Back then (api_Deed.mk y6.What y6.N r1.back r8 y6.Raw) else (api_Deed.mk y6.What y6.N false r8 y6.Raw)).P).a1)), .d (.int .u16 (((if y6.Back then (api_Deed.mk y6.What y6.N r1.back r8 y6.Raw) else (api_Deed.mk y6.What y6.N false r8 y6.Raw)).P).a2)), .d (.int .u16 (((if y6.Back then (api_Deed.mk y6.What y6.N r1.back r8 y6.Raw) else (api_Deed.mk y6.What y6.N false r8 y6.Raw)).P).a3)), .d (.int .u16 (((if y6.Back then (api_Deed.mk y6.What y6.N r1.back r8 y6.Raw) else (api_Deed.mk y6.What y6.N false r8 y6.Raw)).P).a4)), .d (.int .u16 (((if y6.Back then (api_Deed.mk y6.What y6.N r1.back r8 y6.Raw) else (api_Deed.mk y6.What y6.N false r8 y6.Raw)).P).a5)), .d (.int .u16 (((if y6.Back then (api_Deed.mk y6.What y6.N r1.back r8 y6.Raw) else (api_Deed.mk y6.What y6.N false r8 y6.Raw)).P).a6)), .d (.int .u16 (((if y6.Back then (api_Deed.mk y6.What y6.N r1.back r8 y6.Raw) else (api_Deed.mk y6.What y6.N false r8 y6.Raw)).P).a7)), .d (.str ((if y6.Back then (api_Deed.mk y6.What y6.N r1.back r8 y6.Raw) else (api_Deed.mk y6.What y6.N false r8 y6.Raw)).Raw))])], 1⟩ ?_ ?_
  · refine step (v := .d (eapi_Deed (api_Deed.mk ((if y6.Back then (api_Deed.mk y6.What y6.N r1.back r8 y6.Raw) else (api_Deed.mk y6.What y6.N false r8 y6.Raw)).What) ((if y6.Back then (api_Deed.mk y6.What y6.N r1.back r8 y6.Raw) else (api_Deed.mk y6.What y6.N false r8 y6.Raw)).N) ((if y6.Back then (api_Deed.mk y6.What y6.N r1.back r8 y6.Raw) else (api_Deed.mk y6.What y6.N false r8 y6.Raw)).Back) ((if y6.Back then (api_Deed.mk y6.What y6.N r1.back r8 y6.Raw) else (api_Deed.mk y6.What y6.N false r8 y6.Raw)).P) ((if y6.Back then (api_Deed.mk y6.What y6.N r1.back r8 y6.Raw) else (api_Deed.mk y6.What y6.N false r8 y6.Raw)).Raw)))) (st_ldV (ds := [.int .i64 ((if y6.Back then (api_Deed.mk y6.What y6.N r1.back r8 y6.Raw) else (api_Deed.mk y6.What y6.N false r8 y6.Raw)).What), .int .i64 ((if y6.Back then (api_Deed.mk y6.What y6.N r1.back r8 y6.Raw) else (api_Deed.mk y6.What y6.N false r8 y6.Raw)).N), .bool ((if y6.Back then (api_Deed.mk y6.What y6.N r1.back r8 y6.Raw) else (api_Deed.mk y6.What y6.N false r8 y6.Raw)).Back), .int .u16 (((if y6.Back then (api_Deed.mk y6.What y6.N r1.back r8 y6.Raw) else (api_Deed.mk y6.What y6.N false r8 y6.Raw)).P).a0), .int .u16 (((if y6.Back then (api_Deed.mk y6.What y6.N r1.back r8 y6.Raw) else (api_Deed.mk y6.What y6.N false r8 y6.Raw)).P).a1), .int .u16 (((if y6.Back then (api_Deed.mk y6.What y6.N r1.back r8 y6.Raw) else (api_Deed.mk y6.What y6.N false r8 y6.Raw)).P).a2), .int .u16 (((if y6.Back then (api_Deed.mk y6.What y6.N r1.back r8 y6.Raw) else (api_Deed.mk y6.What y6.N false r8 y6.Raw)).P).a3), .int .u16 (((if y6.Back then (api_Deed.mk y6.What y6.N r1.back r8 y6.Raw) else (api_Deed.mk y6.What y6.N false r8 y6.Raw)).P).a4), .int .u16 (((if y6.Back then (api_Deed.mk y6.What y6.N r1.back r8 y6.Raw) else (api_Deed.mk y6.What y6.N false r8 y6.Raw)).P).a5), .int .u16 (((if y6.Back then (api_Deed.mk y6.What y6.N r1.back r8 y6.Raw) else (api_Deed.mk y6.What y6.N false r8 y6.Raw)).P).a6), .int .u16 (((if y6.Back then (api_Deed.mk y6.What y6.N r1.back r8 y6.Raw) else (api_Deed.mk y6.What y6.N false r8 y6.Raw)).P).a7), .str ((if y6.Back then (api_Deed.mk y6.What y6.N r1.back r8 y6.Raw) else (api_Deed.mk y6.What y6.N false r8 y6.Raw)).Raw)]) rfl rfl (show 12 ≤ 12 by decide) rfl) ?_
    refine step (v := V.undef) (σ' := (upd (stab [(0, .var [.d (.int .i64 ((if y6.Back then (api_Deed.mk y6.What y6.N r1.back r8 y6.Raw) else (api_Deed.mk y6.What y6.N false r8 y6.Raw)).What)), .d (.int .i64 ((if y6.Back then (api_Deed.mk y6.What y6.N r1.back r8 y6.Raw) else (api_Deed.mk y6.What y6.N false r8 y6.Raw)).N)), .d (.bool ((if y6.Back then (api_Deed.mk y6.What y6.N r1.back r8 y6.Raw) else (api_Deed.mk y6.What y6.N false r8 y6.Raw)).Back)), .d (.int .u16 (((if y6.Back then (api_Deed.mk y6.What y6.N r1.back r8 y6.Raw) else (api_Deed.mk y6.What y6.N false r8 y6.Raw)).P).a0)), .d (.int .u16 (((if y6.Back then (api_Deed.mk y6.What y6.N r1.back r8 y6.Raw) else (api_Deed.mk y6.What y6.N false r8 y6.Raw)).P).a1)), .d (.int .u16 (((if y6.Back then (api_Deed.mk y6.What y6.N r1.back r8 y6.Raw) else (api_Deed.mk y6.What y6.N false r8 y6.Raw)).P).a2)), .d (.int .u16 (((if y6.Back then (api_Deed.mk y6.What y6.N r1.back r8 y6.Raw) else (api_Deed.mk y6.What y6.N false r8 y6.Raw)).P).a3)), .d (.int .u16 (((if y6.Back then (api_Deed.mk y6.What y6.N r1.back r8 y6.Raw) else (api_Deed.mk y6.What y6.N false r8 y6.Raw)).P).a4)), .d (.int .u16 (((if y6.Back then (api_Deed.mk y6.What y6.N r1.back r8 y6.Raw) else (api_Deed.mk y6.What y6.N false r8 y6.Raw)).P).a5)), .d (.int .u16 (((if y6.Back then (api_Deed.mk y6.What y6.N r1.back r8 y6.Raw) else (api_Deed.mk y6.What y6.N false r8 y6.Raw)).P).a6)), .d (.int .u16 (((if y6.Back then (api_Deed.mk y6.What y6.N r1.back r8 y6.Raw) else (api_Deed.mk y6.What y6.N false r8 y6.Raw)).P).a7)), .d (.str ((if y6.Back then (api_Deed.mk y6.What y6.N r1.back r8 y6.Raw) else (api_Deed.mk y6.What y6.N false r8 y6.Raw)).Raw))]), (1, .var [.d (.int .i64 0), .d (.int .i64 0), .d (.bool false), .d (.int .u16 0), .d (.int .u16 0), .d (.int .u16 0), .d (.int .u16 0), .d (.int .u16 0), .d (.int .u16 0), .d (.int .u16 0), .d (.int .u16 0), .d (.str (⟨#[]⟩ : ByteArray))])]) 1 (some (.var [.d (.int .i64 ((if y6.Back then (api_Deed.mk y6.What y6.N r1.back r8 y6.Raw) else (api_Deed.mk y6.What y6.N false r8 y6.Raw)).What)), .d (.int .i64 ((if y6.Back then (api_Deed.mk y6.What y6.N r1.back r8 y6.Raw) else (api_Deed.mk y6.What y6.N false r8 y6.Raw)).N)), .d (.bool ((if y6.Back then (api_Deed.mk y6.What y6.N r1.back r8 y6.Raw) else (api_Deed.mk y6.What y6.N false r8 y6.Raw)).Back)), .d (.int .u16 (((if y6.Back then (api_Deed.mk y6.What y6.N r1.back r8 y6.Raw) else (api_Deed.mk y6.What y6.N false r8 y6.Raw)).P).a0)), .d (.int .u16 (((if y6.Back then (api_Deed.mk y6.What y6.N r1.back r8 y6.Raw) else (api_Deed.mk y6.What y6.N false r8 y6.Raw)).P).a1)), .d (.int .u16 (((if y6.Back then (api_Deed.mk y6.What y6.N r1.back r8 y6.Raw) else (api_Deed.mk y6.What y6.N false r8 y6.Raw)).P).a2)), .d (.int .u16 (((if y6.Back then (api_Deed.mk y6.What y6.N r1.back r8 y6.Raw) else (api_Deed.mk y6.What y6.N false r8 y6.Raw)).P).a3)), .d (.int .u16 (((if y6.Back then (api_Deed.mk y6.What y6.N r1.back r8 y6.Raw) else (api_Deed.mk y6.What y6.N false r8 y6.Raw)).P).a4)), .d (.int .u16 (((if y6.Back then (api_Deed.mk y6.What y6.N r1.back r8 y6.Raw) else (api_Deed.mk y6.What y6.N false r8 y6.Raw)).P).a5)), .d (.int .u16 (((if y6.Back then (api_Deed.mk y6.What y6.N r1.back r8 y6.Raw) else (api_Deed.mk y6.What y6.N false r8 y6.Raw)).P).a6)), .d (.int .u16 (((if y6.Back then (api_Deed.mk y6.What y6.N r1.back r8 y6.Raw) else (api_Deed.mk y6.What y6.N false r8 y6.Raw)).P).a7)), .d (.str ((if y6.Back then (api_Deed.mk y6.What y6.N r1.back r8 y6.Raw) else (api_Deed.mk y6.What y6.N false r8 y6.Raw)).Raw))])))) (n' := 2) rfl ?_
    exact RunOps.nil' (Norm.mk [1] (by decide) (by decide) (by decide) ⟨.ptr 0 _ _ (show 0 < 1 by decide), trivial⟩ ⟨⟨show 0 < 1 by decide, _, rfl, .vars ⟨.d _, .d _, .d _, .d _, .d _, .d _, .d _, .d _, .d _, .d _, .d _, .d _, trivial⟩⟩, trivial⟩)
  have hh := Option.some.inj h
  subst hh
  refine NWp.ret ?_
  show FQ _ _ _ _
  exact FQ.mk1 (.inr rfl) (res_cell (ds := [.int .i64 ((if y6.Back then (api_Deed.mk y6.What y6.N r1.back r8 y6.Raw) else (api_Deed.mk y6.What y6.N false r8 y6.Raw)).What), .int .i64 ((if y6.Back then (api_Deed.mk y6.What y6.N r1.back r8 y6.Raw) else (api_Deed.mk y6.What y6.N false r8 y6.Raw)).N), .bool ((if y6.Back then (api_Deed.mk y6.What y6.N r1.back r8 y6.Raw) else (api_Deed.mk y6.What y6.N false r8 y6.Raw)).Back), .int .u16 (((if y6.Back then (api_Deed.mk y6.What y6.N r1.back r8 y6.Raw) else (api_Deed.mk y6.What y6.N false r8 y6.Raw)).P).a0), .int .u16 (((if y6.Back then (api_Deed.mk y6.What y6.N r1.back r8 y6.Raw) else (api_Deed.mk y6.What y6.N false r8 y6.Raw)).P).a1), .int .u16 (((if y6.Back then (api_Deed.mk y6.What y6.N r1.back r8 y6.Raw) else (api_Deed.mk y6.What y6.N false r8 y6.Raw)).P).a2), .int .u16 (((if y6.Back then (api_Deed.mk y6.What y6.N r1.back r8 y6.Raw) else (api_Deed.mk y6.What y6.N false r8 y6.Raw)).P).a3), .int .u16 (((if y6.Back then (api_Deed.mk y6.What y6.N r1.back r8 y6.Raw) else (api_Deed.mk y6.What y6.N false r8 y6.Raw)).P).a4), .int .u16 (((if y6.Back then (api_Deed.mk y6.What y6.N r1.back r8 y6.Raw) else (api_Deed.mk y6.What y6.N false r8 y6.Raw)).P).a5), .int .u16 (((if y6.Back then (api_Deed.mk y6.What y6.N r1.back r8 y6.Raw) else (api_Deed.mk y6.What y6.N false r8 y6.Raw)).P).a6), .int .u16 (((if y6.Back then (api_Deed.mk y6.What y6.N r1.back r8 y6.Raw) else (api_Deed.mk y6.What y6.N false r8 y6.Raw)).P).a7), .str ((if y6.Back then (api_Deed.mk y6.What y6.N r1.back r8 y6.Raw) else (api_Deed.mk y6.What y6.N false r8 y6.Raw)).Raw)]) rfl rfl (show 12 ≤ 12 by decide) rfl rfl) (RV.d trivial)

theorem c_ref32_Clean {a0 : api_Deed} {r : api_Deed} (h : ref32_Clean a0 = some r) : PCall Try.prog 20 [eapi_Deed a0] (eapi_Deed r) := by
  refine PCall.introN ok20 (show 1 ≤ 42 by decide) ?_
  refine NWp.norm (s0 := ⟨tab [(0, .d (eapi_Deed a0))], stab [], 0⟩) (Norm.mk [] (by decide) (by decide) (by decide) ⟨.d _, trivial⟩ trivial) ?_
  refine NWp.opsJ ⟨tab [(1, .d (.cptr (some 12) (eapi_Deed a0) 0)), (2, .ptr 0 0 0)], stab [(0, .var [.d (.int .i64 0), .d (.int .i64 0), .d (.bool false), .d (.int .u16 0), .d (.int .u16 0), .d (.int .u16 0), .d (.int .u16 0), .d (.int .u16 0), .d (.int .u16 0), .d (.int .u16 0), .d (.int .u16 0), .d (.str (⟨#[]⟩ : ByteArray))])], 1⟩ ?_ ?_
  · refine step (v := .d (.cptr (some 12) (eapi_Deed a0) 0)) rfl ?_
    refine step (v := .ptr 0 0 0) (σ' := (upd (stab []) 0 (some (.var [.d (.int .i64 0), .d (.int .i64 0), .d (.bool false), .d (.int .u16 0), .d (.int .u16 0), .d (.int .u16 0), .d (.int .u16 0), .d (.int .u16 0), .d (.int .u16 0), .d (.int .u16 0), .d (.int .u16 0), .d (.str (⟨#[]⟩ : ByteArray))])))) (n' := 1) rfl ?_
    exact RunOps.nil' (Norm.mk [0] (by decide) (by decide) (by decide) ⟨.d _, .ptr 0 _ _ (show 0 < 1 by decide), trivial⟩ ⟨⟨show 0 < 1 by decide, _, rfl, .vars ⟨.d _, .d _, .d _, .d _, .d _, .d _, .d _, .d _, .d _, .d _, .d _, .d _, trivial⟩⟩, trivial⟩)
  refine NWp.opsJ ⟨tab [(1, .d (.cptr (some 12) (eapi_Deed a0) 0)), (2, .ptr 0 0 0), (3, .ptr 1 0 0)], stab [(0, .var [.d (.int .i64 0), .d (.int .i64 0), .d (.bool false), .d (.int .u16 0), .d (.int .u16 0), .d (.int .u16 0), .d (.int .u16 0), .d (.int .u16 0), .d (.int .u16 0), .d (.int .u16 0), .d (.int .u16 0), .d (.str (⟨#[]⟩ : ByteArray))]), (1, .var [.d (.int .i64 a0.What), .d (.int .i64 a0.N), .d (.bool false), .d (.int .u16 0), .d (.int .u16 0), .d (.int .u16 0), .d (.int .u16 0), .d (.int .u16 0), .d (.int .u16 0), .d (.int .u16 0), .d (.int .u16 0), .d (.str (⟨#[]⟩ : ByteArray))])], 2⟩ ?_ ?_
  · refine step (v := .d (.cptr (some 12) (eapi_Deed a0) 0)) rfl ?_
    refine step (v := .d (.int .i64 a0.What)) rfl ?_
    refine step (v := .d (.cptr (some 12) (eapi_Deed a0) 1)) rfl ?_
    refine step (v := .d (.int .i64 a0.N)) rfl ?_
    refine step (v := .d (eapi_Deed (api_Deed.mk a0.What a0.N false (A8.mk 0 0 0 0 0 0 0 0) (⟨#[]⟩ : ByteArray)))) (st_build (ds := [.int .i64 a0.What, .int .i64 a0.N, .bool false, .int .u16 0, .int .u16 0, .int .u16 0, .int .u16 0, .int .u16 0, .int .u16 0, .int .u16 0, .int .u16 0, .str (⟨#[]⟩ : ByteArray)]) rfl) ?_
    refine step (v := .ptr 1 0 0) (σ' := (upd (stab [(0, .var [.d (.int .i64 0), .d (.int .i64 0), .d (.bool false), .d (.int .u16 0), .d (.int .u16 0), .d (.int .u16 0), .d (.int .u16 0), .d (.int .u16 0), .d (.int .u16 0), .d (.int .u16 0), .d (.int .u16 0), .d (.str (⟨#[]⟩ : ByteArray))])]) 1 (some (.var [.d (.int .i64 0), .d (.int .i64 0), .d (.bool false), .d (.int .u16 0), .d (.int .u16 0), .d (.int .u16 0), .d (.int .u16 0), .d (.int .u16 0), .d (.int .u16 0), .d (.int .u16 0), .d (.int .u16 0), .d (.str (⟨#[]⟩ : ByteArray))])))) (n' := 2) rfl ?_
    refine step (v := V.undef) (σ' := (upd (upd (stab [(0, .var [.d (.int .i64 0), .d (.int .i64 0), .d (.bool false), .d (.int .u16 0), .d (.int .u16 0), .d (.int .u16 0), .d (.int .u16 0), .d (.int .u16 0), .d (.int .u16 0), .d (.int .u16 0), .d (.int .u16 0), .d (.str (⟨#[]⟩ : ByteArray))])]) 1 (some (.var [.d (.int .i64 0), .d (.int .i64 0), .d (.bool false), .d (.int .u16 0), .d (.int .u16 0), .d (.int .u16 0), .d (.int .u16 0), .d (.int .u16 0), .d (.int .u16 0), .d (.int .u16 0), .d (.int .u16 0), .d (.str (⟨#[]⟩ : ByteArray))]))) 1 (some (.var [.d (.int .i64 a0.What), .d (.int .i64 a0.N), .d (.bool false), .d (.int .u16 0), .d (.int .u16 0), .d (.int .u16 0), .d (.int .u16 0), .d (.int .u16 0), .d (.int .u16 0), .d (.int .u16 0), .d (.int .u16 0), .d (.str (⟨#[]⟩ : ByteArray))])))) (n' := 2) rfl ?_
    exact RunOps.nil' (Norm.mk [0, 1] (by decide) (by decide) (by decide) ⟨.d _, .ptr 0 _ _ (show 0 < 2 by decide), .ptr 1 _ _ (show 1 < 2 by decide), trivial⟩ ⟨⟨show 0 < 2 by decide, _, rfl, .vars ⟨.d _, .d _, .d _, .d _, .d _, .d _, .d _, .d _, .d _, .d _, .d _, .d _, trivial⟩⟩, ⟨show 1 < 2 by decide, _, rfl, .vars ⟨.d _, .d _, .d _, .d _, .d _, .d _, .d _, .d _, .d _, .d _, .d _, .d _, trivial⟩⟩, trivial⟩)
  obtain ⟨y14, hv, h⟩ := bindE h
  refine NWp.seqN ⟨tab [(1, .d (.cptr (some 12) (eapi_Deed a0) 0)), (2, .ptr 0 0 0), (3, .ptr 1 0 0)], stab [(0, .var [.d (.int .i64 0), .d (.int .i64 0), .d (.bool false), .d (.int .u16 0), .d (.int .u16 0), .d (.int .u16 0), .d (.int .u16 0), .d (.int .u16 0), .d (.int .u16 0), .d (.int .u16 0), .d (.int .u16 0), .d (.str (⟨#[]⟩ : ByteArray))]), (1, .var [.d (.int .i64 y14.What), .d (.int .i64 y14.N), .d (.bool y14.Back), .d (.int .u16 y14.P.a0), .d (.int .u16 y14.P.a1), .d (.int .u16 y14.P.a2), .d (.int .u16 y14.P.a3), .d (.int .u16 y14.P.a4), .d (.int .u16 y14.P.a5), .d (.int .u16 y14.P.a6), .d (.int .u16 y14.P.a7), .d (.str y14.Raw)])], 2⟩ ?_ ?_
  · replace h := hv
    refine NWp.opsJ ⟨tab [(1, .d (.cptr (some 12) (eapi_Deed a0) 0)), (2, .ptr 0 0 0), (3, .ptr 1 0 0), (12, .d (.bool (a0.What == 0)))], stab [(0, .var [.d (.int .i64 0), .d (.int .i64 0), .d (.bool false), .d (.int .u16 0), .d (.int .u16 0), .d (.int .u16 0), .d (.int .u16 0), .d (.int .u16 0), .d (.int .u16 0), .d (.int .u16 0), .d (.int .u16 0), .d (.str (⟨#[]⟩ : ByteArray))]), (1, .var [.d (.int .i64 a0.What), .d (.int .i64 a0.N), .d (.bool false), .d (.int .u16 0), .d (.int .u16 0), .d (.int .u16 0), .d (.int .u16 0), .d (.int .u16 0), .d (.int .u16 0), .d (.int .u16 0), .d (.int .u16 0), .d (.str (⟨#[]⟩ : ByteArray))])], 2⟩ ?_ ?_
    · refine step (v := .d (.cptr (some 12) (eapi_Deed a0) 0)) rfl ?_
      refine step (v := .d (.int .i64 a0.What)) rfl ?_
      refine step (v := .d (.bool (a0.What == 0))) rfl ?_
      exact RunOps.nil' (Norm.mk [0, 1] (by decide) (by decide) (by decide) ⟨.d _, .ptr 0 _ _ (show 0 < 2 by decide), .ptr 1 _ _ (show 1 < 2 by decide), .d _, trivial⟩ ⟨⟨show 0 < 2 by decide, _, rfl, .vars ⟨.d _, .d _, .d _, .d _, .d _, .d _, .d _, .d _, .d _, .d _, .d _, .d _, trivial⟩⟩, ⟨show 1 < 2 by decide, _, rfl, .vars ⟨.d _, .d _, .d _, .d _, .d _, .d _, .d _, .d _, .d _, .d _, .d _, .d _, trivial⟩⟩, trivial⟩)
    by_cases hc1 : (a0.What == 0) = true
    · replace h := iteT hc1 h
      refine NWp.condT (t := (a0.What == 0)) rfl hc1 ?_
      refine NWp.opsJ ⟨tab [(1, .d (.cptr (some 12) (eapi_Deed a0) 0)), (2, .ptr 0 0 0), (3, .ptr 1 0 0), (4, .d (.int .i64 2))], stab [(0, .var [.d (.int .i64 0), .d (.int .i64 0), .d (.bool false), .d (.int .u16 0), .d (.int .u16 0), .d (.int .u16 0), .d (.int .u16 0), .d (.int .u16 0), .d (.int .u16 0), .d (.int .u16 0), .d (.int .u16 0), .d (.str (⟨#[]⟩ : ByteArray))]), (1, .var [.d (.int .i64 a0.What), .d (.int .i64 a0.N), .d (.bool false), .d (.int .u16 0), .d (.int .u16 0), .d (.int .u16 0), .d (.int .u16 0), .d (.int .u16 0), .d (.int .u16 0), .d (.int .u16 0), .d (.int .u16 0), .d (.str (⟨#[]⟩ : ByteArray))])], 2⟩ ?_ ?_
      · refine step (v := .d (.int .i64 2)) rfl ?_
        exact RunOps.nil' (Norm.mk [0, 1] (by decide) (by decide) (by decide) ⟨.d _, .ptr 0 _ _ (show 0 < 2 by decide), .ptr 1 _ _ (show 1 < 2 by decide), .d _, trivial⟩ ⟨⟨show 0 < 2 by decide, _, rfl, .vars ⟨.d _, .d _, .d _, .d _, .d _, .d _, .d _, .d _, .d _, .d _, .d _, .d _, trivial⟩⟩, ⟨show 1 < 2 by decide, _, rfl, .vars ⟨.d _, .d _, .d _, .d _, .d _, .d _, .d _, .d _, .d _, .d _, .d _, .d _, trivial⟩⟩, trivial⟩)
      obtain ⟨z12, hl, h⟩ := bindE h
      refine NWp.norm (s0 := ⟨tab [(1, .d (.cptr (some 12) (eapi_Deed a0) 0)), (2, .ptr 0 0 0), (3, .ptr 1 0 0), (4, .d (.int .i64 2))], stab [(0, .var [.d (.int .i64 0), .d (.int .i64 0), .d (.bool false), .d (.int .u16 0), .d (.int .u16 0), .d (.int .u16 0), .d (.int .u16 0), .d (.int .u16 0), .d (.int .u16 0), .d (.int .u16 0), .d (.int .u16 0), .d (.str (⟨#[]⟩ : ByteArray))]), (1, .var [.d (.int .i64 ((api_Deed.mk a0.What a0.N false (A8.mk 0 0 0 0 0 0 0 0) (⟨#[]⟩ : ByteArray)).What)), .d (.int .i64 ((api_Deed.mk a0.What a0.N false (A8.mk 0 0 0 0 0 0 0 0) (⟨#[]⟩ : ByteArray)).N)), .d (.bool ((api_Deed.mk a0.What a0.N false (A8.mk 0 0 0 0 0 0 0 0) (⟨#[]⟩ : ByteArray)).Back)), .d (.int .u16 ((api_Deed.mk a0.What a0.N false (A8.mk 0 0 0 0 0 0 0 0) (⟨#[]⟩ : ByteArray)).P.a0)), .d (.int .u16 ((api_Deed.mk a0.What a0.N false (A8.mk 0 0 0 0 0 0 0 0) (⟨#[]⟩ : ByteArray)).P.a1)), .d (.int .u16 ((api_Deed.mk a0.What a0.N false (A8.mk 0 0 0 0 0 0 0 0) (⟨#[]⟩ : ByteArray)).P.a2)), .d (.int .u16 ((api_Deed.mk a0.What a0.N false (A8.mk 0 0 0 0 0 0 0 0) (⟨#[]⟩ : ByteArray)).P.a3)), .d (.int .u16 ((api_Deed.mk a0.What a0.N false (A8.mk 0 0 0 0 0 0 0 0) (⟨#[]⟩ : ByteArray)).P.a4)), .d (.int .u16 ((api_Deed.mk a0.What a0.N false (A8.mk 0 0 0 0 0 0 0 0) (⟨#[]⟩ : ByteArray)).P.a5)), .d (.int .u16 ((api_Deed.mk a0.What a0.N false (A8.mk 0 0 0 0 0 0 0 0) (⟨#[]⟩ : ByteArray)).P.a6)), .d (.int .u16 ((api_Deed.mk a0.What a0.N false (A8.mk 0 0 0 0 0 0 0 0) (⟨#[]⟩ : ByteArray)).P.a7)), .d (.str ((api_Deed.mk a0.What a0.N false (A8.mk 0 0 0 0 0 0 0 0) (⟨#[]⟩ : ByteArray)).Raw))])], 2⟩) (Norm.mk [0, 1] (by decide) (by decide) (by decide) ⟨.d _, .ptr 0 _ _ (show 0 < 2 by decide), .ptr 1 _ _ (show 1 < 2 by decide), .d _, trivial⟩ ⟨⟨show 0 < 2 by decide, _, rfl, .vars ⟨.d _, .d _, .d _, .d _, .d _, .d _, .d _, .d _, .d _, .d _, .d _, .d _, trivial⟩⟩, ⟨show 1 < 2 by decide, _, rfl, .vars ⟨.d _, .d _, .d _, .d _, .d _, .d _, .d _, .d _, .d _, .d _, .d _, .d _, trivial⟩⟩, trivial⟩) ?_
      refine NWp.block ?_
      refine loop_forO (cntU 8) (fun (i2 : Int) (qq : api_Deed) => ⟨tab [(1, .d (.cptr (some 12) (eapi_Deed a0) 0)), (2, .ptr 0 0 0), (3, .ptr 1 0 0), (4, .d (.int .i64 i2))], stab [(0, .var [.d (.int .i64 0), .d (.int .i64 0), .d (.bool false), .d (.int .u16 0), .d (.int .u16 0), .d (.int .u16 0), .d (.int .u16 0), .d (.int .u16 0), .d (.int .u16 0), .d (.int .u16 0), .d (.int .u16 0), .d (.str (⟨#[]⟩ : ByteArray))]), (1, .var [.d (.int .i64 qq.What), .d (.int .i64 qq.N), .d (.bool qq.Back), .d (.int .u16 qq.P.a0), .d (.int .u16 qq.P.a1), .d (.int .u16 qq.P.a2), .d (.int .u16 qq.P.a3), .d (.int .u16 qq.P.a4), .d (.int .u16 qq.P.a5), .d (.int .u16 qq.P.a6), .d (.int .u16 qq.P.a7), .d (.str qq.Raw)])], 2⟩) 0 (fun (qq : api_Deed) => ⟨tab [(1, .d (.cptr (some 12) (eapi_Deed a0) 0)), (2, .ptr 0 0 0), (3, .ptr 1 0 0)], stab [(0, .var [.d (.int .i64 0), .d (.int .i64 0), .d (.bool false), .d (.int .u16 0), .d (.int .u16 0), .d (.int .u16 0), .d (.int .u16 0), .d (.int .u16 0), .d (.int .u16 0), .d (.int .u16 0), .d (.int .u16 0), .d (.str (⟨#[]⟩ : ByteArray))]), (1, .var [.d (.int .i64 qq.What), .d (.int .i64 qq.N), .d (.bool qq.Back), .d (.int .u16 qq.P.a0), .d (.int .u16 qq.P.a1), .d (.int .u16 qq.P.a2), .d (.int .u16 qq.P.a3), .d (.int .u16 qq.P.a4), .d (.int .u16 qq.P.a5), .d (.int .u16 qq.P.a6), .d (.int .u16 qq.P.a7), .d (.str qq.Raw)])], 2⟩) Low low_step hl (by unfold Low; omega) ?_ ?_ ?_
      · rintro i2 y3 xr8 hinv6 hgo5 h
        show NWp _ _ _ _ _ ⟨tab [(1, .d (.cptr (some 12) (eapi_Deed a0) 0)), (2, .ptr 0 0 0), (3, .ptr 1 0 0), (4, .d (.int .i64 i2))], stab [(0, .var [.d (.int .i64 0), .d (.int .i64 0), .d (.bool false), .d (.int .u16 0), .d (.int .u16 0), .d (.int .u16 0), .d (.int .u16 0), .d (.int .u16 0), .d (.int .u16 0), .d (.int .u16 0), .d (.int .u16 0), .d (.str (⟨#[]⟩ : ByteArray))]), (1, .var [.d (.int .i64 y3.What), .d (.int .i64 y3.N), .d (.bool y3.Back), .d (.int .u16 y3.P.a0), .d (.int .u16 y3.P.a1), .d (.int .u16 y3.P.a2), .d (.int .u16 y3.P.a3), .d (.int .u16 y3.P.a4), .d (.int .u16 y3.P.a5), .d (.int .u16 y3.P.a6), .d (.int .u16 y3.P.a7), .d (.str y3.Raw)])], 2⟩
        have hc7 : decide (i2 < 8) = true := decide_eq_true hgo5
        refine NWp.seq ?_
        refine NWp.opsJ ⟨tab [(1, .d (.cptr (some 12) (eapi_Deed a0) 0)), (2, .ptr 0 0 0), (3, .ptr 1 0 0), (4, .d (.int .i64 i2)), (14, .d (.bool (decide (i2 < 8))))], stab [(0, .var [.d (.int .i64 0), .d (.int .i64 0), .d (.bool false), .d (.int .u16 0), .d (.int .u16 0), .d (.int .u16 0), .d (.int .u16 0), .d (.int .u16 0), .d (.int .u16 0), .d (.int .u16 0), .d (.int .u16 0), .d (.str (⟨#[]⟩ : ByteArray))]), (1, .var [.d (.int .i64 y3.What), .d (.int .i64 y3.N), .d (.bool y3.Back), .d (.int .u16 y3.P.a0), .d (.int .u16 y3.P.a1), .d (.int .u16 y3.P.a2), .d (.int .u16 y3.P.a3), .d (.int .u16 y3.P.a4), .d (.int .u16 y3.P.a5), .d (.int .u16 y3.P.a6), .d (.int .u16 y3.P.a7), .d (.str y3.Raw)])], 2⟩ ?_ ?_
        · refine step (v := .d (.int .i64 i2)) rfl ?_
          refine step (v := .d (.bool (decide (i2 < 8)))) rfl ?_
          exact RunOps.nil' (Norm.mk [0, 1] (by decide) (by decide) (by decide) ⟨.d _, .ptr 0 _ _ (show 0 < 2 by decide), .ptr 1 _ _ (show 1 < 2 by decide), .d _, .d _, trivial⟩ ⟨⟨show 0 < 2 by decide, _, rfl, .vars ⟨.d _, .d _, .d _, .d _, .d _, .d _, .d _, .d _, .d _, .d _, .d _, .d _, trivial⟩⟩, ⟨show 1 < 2 by decide, _, rfl, .vars ⟨.d _, .d _, .d _, .d _, .d _, .d _, .d _, .d _, .d _, .d _, .d _, .d _, trivial⟩⟩, trivial⟩)
        refine NWp.condT (t := decide (i2 < 8)) rfl hc7 ?_
        refine NWp.skip ?_
        refine NWp.seq ?_
        refine NWp.block ?_
        obtain ⟨x9, hx9, h⟩ := bindE h
        obtain ⟨x10, hx10, h⟩ := bindE h
        obtain ⟨x11, hx11, h⟩ := bindE h
        refine NWp.opsE ⟨tab [(1, .d (.cptr (some 12) (eapi_Deed a0) 0)), (2, .ptr 0 0 0), (3, .ptr 1 0 0), (4, .d (.int .i64 i2))], stab [(0, .var [.d (.int .i64 0), .d (.int .i64 0), .d (.bool false), .d (.int .u16 0), .d (.int .u16 0), .d (.int .u16 0), .d (.int .u16 0), .d (.int .u16 0), .d (.int .u16 0), .d (.int .u16 0), .d (.int .u16 0), .d (.str (⟨#[]⟩ : ByteArray))]), (1, .var [.d (.int .i64 y3.What), .d (.int .i64 y3.N), .d (.bool y3.Back), .d (.int .u16 x11.a0), .d (.int .u16 x11.a1), .d (.int .u16 x11.a2), .d (.int .u16 x11.a3), .d (.int .u16 x11.a4), .d (.int .u16 x11.a5), .d (.int .u16 x11.a6), .d (.int .u16 x11.a7), .d (.str y3.Raw)])], 2⟩ ?_ ?_
        · refine step (v := .d (.int .i64 i2)) rfl ?_
          refine step (v := .d (.int .i64 i2)) rfl ?_
          refine step (v := .d (.cptr (some 12) (eapi_Deed a0) 3)) rfl ?_
          refine step (v := .d (.cptr (some 12) (eapi_Deed a0) (3 + i2.toNat * 1))) (st_iaddrAC (xs := a0.P.l) hx9 rfl rfl rfl) ?_
          refine step (v := .d (.int .u16 x9)) (st_ldIC rfl (ld_arr (e := (D.int .u16)) (xs := a0.P.l) (pre := [.int .i64 a0.What, .int .i64 a0.N, .bool a0.Back]) (post := [.str a0.Raw]) hx9 rfl (by decide))) ?_
          refine step (v := .ptr 1 0 3) rfl ?_
          refine step (v := .ptr 1 0 (3 + i2.toNat * 1)) (st_iaddrAP (xs := y3.P.l) hx10 rfl rfl rfl) ?_
          refine step (v := V.undef) (σ' := (upd (stab [(0, .var [.d (.int .i64 0), .d (.int .i64 0), .d (.bool false), .d (.int .u16 0), .d (.int .u16 0), .d (.int .u16 0), .d (.int .u16 0), .d (.int .u16 0), .d (.int .u16 0), .d (.int .u16 0), .d (.int .u16 0), .d (.str (⟨#[]⟩ : ByteArray))]), (1, .var [.d (.int .i64 y3.What), .d (.int .i64 y3.N), .d (.bool y3.Back), .d (.int .u16 y3.P.a0), .d (.int .u16 y3.P.a1), .d (.int .u16 y3.P.a2), .d (.int .u16 y3.P.a3), .d (.int .u16 y3.P.a4), .d (.int .u16 y3.P.a5), .d (.int .u16 y3.P.a6), .d (.int .u16 y3.P.a7), .d (.str y3.Raw)])]) 1 (some (.var [.d (.int .i64 y3.What), .d (.int .i64 y3.N), .d (.bool y3.Back), .d (.int .u16 x11.a0), .d (.int .u16 x11.a1), .d (.int .u16 x11.a2), .d (.int .u16 x11.a3), .d (.int .u16 x11.a4), .d (.int .u16 x11.a5), .d (.int .u16 x11.a6), .d (.int .u16 x11.a7), .d (.str y3.Raw)])))) (n' := 2) (st_storeA (e := (D.int .u16)) (xs := y3.P.l) (xs' := x11.l) (pre := [.d (.int .i64 y3.What), .d (.int .i64 y3.N), .d (.bool y3.Back)]) (post := [.d (.str y3.Raw)]) (A8.put_l hx11) rfl rfl rfl rfl rfl rfl) ?_
          exact RunOps.nil' (Norm.mk [0, 1] (by decide) (by decide) (by decide) ⟨.d _, .ptr 0 _ _ (show 0 < 2 by decide), .ptr 1 _ _ (show 1 < 2 by decide), .d _, trivial⟩ ⟨⟨show 0 < 2 by decide, _, rfl, .vars ⟨.d _, .d _, .d _, .d _, .d _, .d _, .d _, .d _, .d _, .d _, .d _, .d _, trivial⟩⟩, ⟨show 1 < 2 by decide, _, rfl, .vars ⟨.d _, .d _, .d _, .d _, .d _, .d _, .d _, .d _, .d _, .d _, .d _, .d _, trivial⟩⟩, trivial⟩)
        have hh := Option.some.inj h
        subst hh
        refine NWp.opsE ⟨tab [(1, .d (.cptr (some 12) (eapi_Deed a0) 0)), (2, .ptr 0 0 0), (3, .ptr 1 0 0), (4, .d (.int .i64 (i2 + 1)))], stab [(0, .var [.d (.int .i64 0), .d (.int .i64 0), .d (.bool false), .d (.int .u16 0), .d (.int .u16 0), .d (.int .u16 0), .d (.int .u16 0), .d (.int .u16 0), .d (.int .u16 0), .d (.int .u16 0), .d (.int .u16 0), .d (.str (⟨#[]⟩ : ByteArray))]), (1, .var [.d (.int .i64 ((api_Deed.mk y3.What y3.N y3.Back x11 y3.Raw).What)), .d (.int .i64 ((api_Deed.mk y3.What y3.N y3.Back x11 y3.Raw).N)), .d (.bool ((api_Deed.mk y3.What y3.N y3.Back x11 y3.Raw).Back)), .d (.int .u16 ((api_Deed.mk y3.What y3.N y3.Back x11 y3.Raw).P.a0)), .d (.int .u16 ((api_Deed.mk y3.What y3.N y3.Back x11 y3.Raw).P.a1)), .d (.int .u16 ((api_Deed.mk y3.What y3.N y3.Back x11 y3.Raw).P.a2)), .d (.int .u16 ((api_Deed.mk y3.What y3.N y3.Back x11 y3.Raw).P.a3)), .d (.int .u16 ((api_Deed.mk y3.What y3.N y3.Back x11 y3.Raw).P.a4)), .d (.int .u16 ((api_Deed.mk y3.What y3.N y3.Back x11 y3.Raw).P.a5)), .d (.int .u16 ((api_Deed.mk y3.What y3.N y3.Back x11 y3.Raw).P.a6)), .d (.int .u16 ((api_Deed.mk y3.What y3.N y3.Back x11 y3.Raw).P.a7)), .d (.str ((api_Deed.mk y3.What y3.N y3.Back x11 y3.Raw).Raw))])], 2⟩ ?_ ?_
        · refine step (v := .d (.int .i64 i2)) rfl ?_
          refine step (v := .d (.int .i64 (i2 + 1))) (st_inc (inc_ok hinv6 hgo5 (by decide)) rfl rfl) ?_
          refine step (v := .d (.int .i64 (i2 + 1))) rfl ?_
          exact RunOps.nil' (Norm.mk [0, 1] (by decide) (by decide) (by decide) ⟨.d _, .ptr 0 _ _ (show 0 < 2 by decide), .ptr 1 _ _ (show 1 < 2 by decide), .d _, trivial⟩ ⟨⟨show 0 < 2 by decide, _, rfl, .vars ⟨.d _, .d _, .d _, .d _, .d _, .d _, .d _, .d _, .d _, .d _, .d _, .d _, trivial⟩⟩, ⟨show 1 < 2 by decide, _, rfl, .vars ⟨.d _, .d _, .d _, .d _, .d _, .d _, .d _, .d _, .d _, .d _, .d _, .d _, trivial⟩⟩, trivial⟩)
        exact And.intro rfl rfl
      · rintro i2 y3 hinv6 hgo5
        show NWp _ _ _ _ _ ⟨tab [(1, .d (.cptr (some 12) (eapi_Deed a0) 0)), (2, .ptr 0 0 0), (3, .ptr 1 0 0), (4, .d (.int .i64 i2))], stab [(0, .var [.d (.int .i64 0), .d (.int .i64 0), .d (.bool false), .d (.int .u16 0), .d (.int .u16 0), .d (.int .u16 0), .d (.int .u16 0), .d (.int .u16 0), .d (.int .u16 0), .d (.int .u16 0), .d (.int .u16 0), .d (.str (⟨#[]⟩ : ByteArray))]), (1, .var [.d (.int .i64 y3.What), .d (.int .i64 y3.N), .d (.bool y3.Back), .d (.int .u16 y3.P.a0), .d (.int .u16 y3.P.a1), .d (.int .u16 y3.P.a2), .d (.int .u16 y3.P.a3), .d (.int .u16 y3.P.a4), .d (.int .u16 y3.P.a5), .d (.int .u16 y3.P.a6), .d (.int .u16 y3.P.a7), .d (.str y3.Raw)])], 2⟩
        have hc7 : ¬ (decide (i2 < 8) = true) := fun hq => hgo5 (of_decide_eq_true hq)
        refine NWp.seq ?_
        refine NWp.opsJ ⟨tab [(1, .d (.cptr (some 12) (eapi_Deed a0) 0)), (2, .ptr 0 0 0), (3, .ptr 1 0 0), (4, .d (.int .i64 i2)), (14, .d (.bool (decide (i2 < 8))))], stab [(0, .var [.d (.int .i64 0), .d (.int .i64 0), .d (.bool false), .d (.int .u16 0), .d (.int .u16 0), .d (.int .u16 0), .d (.int .u16 0), .d (.int .u16 0), .d (.int .u16 0), .d (.int .u16 0), .d (.int .u16 0), .d (.str (⟨#[]⟩ : ByteArray))]), (1, .var [.d (.int .i64 y3.What), .d (.int .i64 y3.N), .d (.bool y3.Back), .d (.int .u16 y3.P.a0), .d (.int .u16 y3.P.a1), .d (.int .u16 y3.P.a2), .d (.int .u16 y3.P.a3), .d (.int .u16 y3.P.a4), .d (.int .u16 y3.P.a5), .d (.int .u16 y3.P.a6), .d (.int .u16 y3.P.a7), .d (.str y3.Raw)])], 2⟩ ?_ ?_
        · refine step (v := .d (.int .i64 i2)) rfl ?_
          refine step (v := .d (.bool (decide (i2 < 8)))) rfl ?_
          exact RunOps.nil' (Norm.mk [0, 1] (by decide) (by decide) (by decide) ⟨.d _, .ptr 0 _ _ (show 0 < 2 by decide), .ptr 1 _ _ (show 1 < 2 by decide), .d _, .d _, trivial⟩ ⟨⟨show 0 < 2 by decide, _, rfl, .vars ⟨.d _, .d _, .d _, .d _, .d _, .d _, .d _, .d _, .d _, .d _, .d _, .d _, trivial⟩⟩, ⟨show 1 < 2 by decide, _, rfl, .vars ⟨.d _, .d _, .d _, .d _, .d _, .d _, .d _, .d _, .d _, .d _, .d _, .d _, trivial⟩⟩, trivial⟩)
        refine NWp.condF (t := decide (i2 < 8)) rfl hc7 ?_
        refine NWp.norm (s0 := ⟨tab [(1, .d (.cptr (some 12) (eapi_Deed a0) 0)), (2, .ptr 0 0 0), (3, .ptr 1 0 0)], stab [(0, .var [.d (.int .i64 0), .d (.int .i64 0), .d (.bool false), .d (.int .u16 0), .d (.int .u16 0), .d (.int .u16 0), .d (.int .u16 0), .d (.int .u16 0), .d (.int .u16 0), .d (.int .u16 0), .d (.int .u16 0), .d (.str (⟨#[]⟩ : ByteArray))]), (1, .var [.d (.int .i64 y3.What), .d (.int .i64 y3.N), .d (.bool y3.Back), .d (.int .u16 y3.P.a0), .d (.int .u16 y3.P.a1), .d (.int .u16 y3.P.a2), .d (.int .u16 y3.P.a3), .d (.int .u16 y3.P.a4), .d (.int .u16 y3.P.a5), .d (.int .u16 y3.P.a6), .d (.int .u16 y3.P.a7), .d (.str y3.Raw)])], 2⟩) (Norm.mk [0, 1] (by decide) (by decide) (by decide) ⟨.d _, .ptr 0 _ _ (show 0 < 2 by decide), .ptr 1 _ _ (show 1 < 2 by decide), trivial⟩ ⟨⟨show 0 < 2 by decide, _, rfl, .vars ⟨.d _, .d _, .d _, .d _, .d _, .d _, .d _, .d _, .d _, .d _, .d _, .d _, trivial⟩⟩, ⟨show 1 < 2 by decide, _, rfl, .vars ⟨.d _, .d _, .d _, .d _, .d _, .d _, .d _, .d _, .d _, .d _, .d _, .d _, trivial⟩⟩, trivial⟩) ?_
        refine NWp.exit ?_
        exact And.intro rfl rfl
      have hh := Option.some.inj h
      subst hh
      exact And.intro rfl rfl
    · replace h := iteF hc1 h
      refine NWp.condF (t := (a0.What == 0)) rfl hc1 ?_
      have hh := Option.some.inj h
      subst hh
      refine NWp.norm (s0 := ⟨tab [(1, .d (.cptr (some 12) (eapi_Deed a0) 0)), (2, .ptr 0 0 0), (3, .ptr 1 0 0)], stab [(0, .var [.d (.int .i64 0), .d (.int .i64 0), .d (.bool false), .d (.int .u16 0), .d (.int .u16 0), .d (.int .u16 0), .d (.int .u16 0), .d (.int .u16 0), .d (.int .u16 0), .d (.int .u16 0), .d (.int .u16 0), .d (.str (⟨#[]⟩ : ByteArray))]), (1, .var [.d (.int .i64 ((api_Deed.mk a0.What a0.N false (A8.mk 0 0 0 0 0 0 0 0) (⟨#[]⟩ : ByteArray)).What)), .d (.int .i64 ((api_Deed.mk a0.What a0.N false (A8.mk 0 0 0 0 0 0 0 0) (⟨#[]⟩ : ByteArray)).N)), .d (.bool ((api_Deed.mk a0.What a0.N false (A8.mk 0 0 0 0 0 0 0 0) (⟨#[]⟩ : ByteArray)).Back)), .d (.int .u16 ((api_Deed.mk a0.What a0.N false (A8.mk 0 0 0 0 0 0 0 0) (⟨#[]⟩ : ByteArray)).P.a0)), .d (.int .u16 ((api_Deed.mk a0.What a0.N false (A8.mk 0 0 0 0 0 0 0 0) (⟨#[]⟩ : ByteArray)).P.a1)), .d (.int .u16 ((api_Deed.mk a0.What a0.N false (A8.mk 0 0 0 0 0 0 0 0) (⟨#[]⟩ : ByteArray)).P.a2)), .d (.int .u16 ((api_Deed.mk a0.What a0.N false (A8.mk 0 0 0 0 0 0 0 0) (⟨#[]⟩ : ByteArray)).P.a3)), .d (.int .u16 ((api_Deed.mk a0.What a0.N false (A8.mk 0 0 0 0 0 0 0 0) (⟨#[]⟩ : ByteArray)).P.a4)), .d (.int .u16 ((api_Deed.mk a0.What a0.N false (A8.mk 0 0 0 0 0 0 0 0) (⟨#[]⟩ : ByteArray)).P.a5)), .d (.int .u16 ((api_Deed.mk a0.What a0.N false (A8.mk 0 0 0 0 0 0 0 0) (⟨#[]⟩ : ByteArray)).P.a6)), .d (.int .u16 ((api_Deed.mk a0.What a0.N false (A8.mk 0 0 0 0 0 0 0 0) (⟨#[]⟩ : ByteArray)).P.a7)), .d (.str ((api_Deed.mk a0.What a0.N false (A8.mk 0 0 0 0 0 0 0 0) (⟨#[]⟩ : ByteArray)).Raw))])], 2⟩) (Norm.mk [0, 1] (by decide) (by decide) (by decide) ⟨.d _, .ptr 0 _ _ (show 0 < 2 by decide), .ptr 1 _ _ (show 1 < 2 by decide), trivial⟩ ⟨⟨show 0 < 2 by decide, _, rfl, .vars ⟨.d _, .d _, .d _, .d _, .d _, .d _, .d _, .d _, .d _, .d _, .d _, .d _, trivial⟩⟩, ⟨show 1 < 2 by decide, _, rfl, .vars ⟨.d _, .d _, .d _, .d _, .d _, .d _, .d _, .d _, .d _, .d _, .d _, .d _, trivial⟩⟩, trivial⟩) ?_
      refine NWp.skip ?_
      exact And.intro rfl rfl
  obtain ⟨y17, hv, h⟩ := bindE h
  refine NWp.seqN ⟨tab [(1, .d (.cptr (some 12) (eapi_Deed a0) 0)), (2, .ptr 0 0 0), (3, .ptr 1 0 0)], stab [(0, .var [.d (.int .i64 0), .d (.int .i64 0), .d (.bool false), .d (.int .u16 0), .d (.int .u16 0), .d (.int .u16 0), .d (.int .u16 0), .d (.int .u16 0), .d (.int .u16 0), .d (.int .u16 0), .d (.int .u16 0), .d (.str (⟨#[]⟩ : ByteArray))]), (1, .var [.d (.int .i64 y17.What), .d (.int .i64 y17.N), .d (.bool y17.Back), .d (.int .u16 y17.P.a0), .d (.int .u16 y17.P.a1), .d (.int .u16 y17.P.a2), .d (.int .u16 y17.P.a3), .d (.int .u16 y17.P.a4), .d (.int .u16 y17.P.a5), .d (.int .u16 y17.P.a6), .d (.int .u16 y17.P.a7), .d (.str y17.Raw)])], 2⟩ ?_ ?_
  · replace h := hv
    refine NWp.opsJ ⟨tab [(1, .d (.cptr (some 12) (eapi_Deed a0) 0)), (2, .ptr 0 0 0), (3, .ptr 1 0 0), (26, .d (.bool (a0.What == 1)))], stab [(0, .var [.d (.int .i64 0), .d (.int .i64 0), .d (.bool false), .d (.int .u16 0), .d (.int .u16 0), .d (.int .u16 0), .d (.int .u16 0), .d (.int .u16 0), .d (.int .u16 0), .d (.int .u16 0), .d (.int .u16 0), .d (.str (⟨#[]⟩ : ByteArray))]), (1, .var [.d (.int .i64 y14.What), .d (.int .i64 y14.N), .d (.bool y14.Back), .d (.int .u16 y14.P.a0), .d (.int .u16 y14.P.a1), .d (.int .u16 y14.P.a2), .d (.int .u16 y14.P.a3), .d (.int .u16 y14.P.a4), .d (.int .u16 y14.P.a5), .d (.int .u16 y14.P.a6), .d (.int .u16 y14.P.a7), .d (.str y14.Raw)])], 2⟩ ?_ ?_
    · refine step (v := .d (.cptr (some 12) (eapi_Deed a0) 0)) rfl ?_
      refine step (v := .d (.int .i64 a0.What)) rfl ?_
      refine step (v := .d (.bool (a0.What == 1))) rfl ?_
      exact RunOps.nil' (Norm.mk [0, 1] (by decide) (by decide) (by decide) ⟨.d _, .ptr 0 _ _ (show 0 < 2 by decide), .ptr 1 _ _ (show 1 < 2 by decide), .d _, trivial⟩ ⟨⟨show 0 < 2 by decide, _, rfl, .vars ⟨.d _, .d _, .d _, .d _, .d _, .d _, .d _, .d _, .d _, .d _, .d _, .d _, trivial⟩⟩, ⟨show 1 < 2 by decide, _, rfl, .vars ⟨.d _, .d _, .d _, .d _, .d _, .d _, .d _, .d _, .d _, .d _, .d _, .d _, trivial⟩⟩, trivial⟩)
    by_cases hc16 : (a0.What == 1) = true
    · replace h := iteT hc16 h
      refine NWp.condT (t := (a0.What == 1)) rfl hc16 ?_
      have hh := Option.some.inj h
      subst hh
      refine NWp.opsE ⟨tab [(1, .d (.cptr (some 12) (eapi_Deed a0) 0)), (2, .ptr 0 0 0), (3, .ptr 1 0 0)], stab [(0, .var [.d (.int .i64 0), .d (.int .i64 0), .d (.bool false), .d (.int .u16 0), .d (.int .u16 0), .d (.int .u16 0), .d (.int .u16 0), .d (.int .u16 0), .d (.int .u16 0), .d (.int .u16 0), .d (.int .u16 0), .d (.str (⟨#[]⟩ : ByteArray))]), (1, .var [.d (.int .i64 ((api_Deed.mk y14.What y14.N y14.Back y14.P a0.Raw).What)), .d (.int .i64 ((api_Deed.mk y14.What y14.N y14.Back y14.P a0.Raw).N)), .d (.bool ((api_Deed.mk y14.What y14.N y14.Back y14.P a0.Raw).Back)), .d (.int .u16 ((api_Deed.mk y14.What y14.N y14.Back y14.P a0.Raw).P.a0)), .d (.int .u16 ((api_Deed.mk y14.What y14.N y14.Back y14.P a0.Raw).P.a1)), .d (.int .u16 ((api_Deed.mk y14.What y14.N y14.Back y14.P a0.Raw).P.a2)), .d (.int .u16 ((api_Deed.mk y14.What y14.N y14.Back y14.P a0.Raw).P.a3)), .d (.int .u16 ((api_Deed.mk y14.What y14.N y14.Back y14.P a0.Raw).P.a4)), .d (.int .u16 ((api_Deed.mk y14.What y14.N y14.Back y14.P a0.Raw).P.a5)), .d (.int .u16 ((api_Deed.mk y14.What y14.N y14.Back y14.P a0.Raw).P.a6)), .d (.int .u16 ((api_Deed.mk y14.What y14.N y14.Back y14.P a0.Raw).P.a7)), .d (.str ((api_Deed.mk y14.What y14.N y14.Back y14.P a0.Raw).Raw))])], 2⟩ ?_ ?_
      · refine step (v := .d (.cptr (some 12) (eapi_Deed a0) 11)) rfl ?_
        refine step (v := .d (.str a0.Raw)) rfl ?_
        refine step (v := .ptr 1 0 11) rfl ?_
        refine step (v := V.undef) (σ' := (upd (stab [(0, .var [.d (.int .i64 0), .d (.int .i64 0), .d (.bool false), .d (.int .u16 0), .d (.int .u16 0), .d (.int .u16 0), .d (.int .u16 0), .d (.int .u16 0), .d (.int .u16 0), .d (.int .u16 0), .d (.int .u16 0), .d (.str (⟨#[]⟩ : ByteArray))]), (1, .var [.d (.int .i64 y14.What), .d (.int .i64 y14.N), .d (.bool y14.Back), .d (.int .u16 y14.P.a0), .d (.int .u16 y14.P.a1), .d (.int .u16 y14.P.a2), .d (.int .u16 y14.P.a3), .d (.int .u16 y14.P.a4), .d (.int .u16 y14.P.a5), .d (.int .u16 y14.P.a6), .d (.int .u16 y14.P.a7), .d (.str y14.Raw)])]) 1 (some (.var [.d (.int .i64 y14.What), .d (.int .i64 y14.N), .d (.bool y14.Back), .d (.int .u16 y14.P.a0), .d (.int .u16 y14.P.a1), .d (.int .u16 y14.P.a2), .d (.int .u16 y14.P.a3), .d (.int .u16 y14.P.a4), .d (.int .u16 y14.P.a5), .d (.int .u16 y14.P.a6), .d (.int .u16 y14.P.a7), .d (.str a0.Raw)])))) (n' := 2) rfl ?_
        exact RunOps.nil' (Norm.mk [0, 1] (by decide) (by decide) (by decide) ⟨.d _, .ptr 0 _ _ (show 0 < 2 by decide), .ptr 1 _ _ (show 1 < 2 by decide), trivial⟩ ⟨⟨show 0 < 2 by decide, _, rfl, .vars ⟨.d _, .d _, .d _, .d _, .d _, .d _, .d _, .d _, .d _, .d _, .d _, .d _, trivial⟩⟩, ⟨show 1 < 2 by decide, _, rfl, .vars ⟨.d _, .d _, .d _, .d _, .d _, .d _, .d _, .d _, .d _, .d _, .d _, .d _, trivial⟩⟩, trivial⟩)
      exact And.intro rfl rfl
    · replace h := iteF hc16 h
      refine NWp.condF (t := (a0.What == 1)) rfl hc16 ?_
      have hh := Option.some.inj h
      subst hh
      refine NWp.norm (s0 := ⟨tab [(1, .d (.cptr (some 12) (eapi_Deed a0) 0)), (2, .ptr 0 0 0), (3, .ptr 1 0 0)], stab [(0, .var [.d (.int .i64 0), .d (.int .i64 0), .d (.bool false), .d (.int .u16 0), .d (.int .u16 0), .d (.int .u16 0), .d (.int .u16 0), .d (.int .u16 0), .d (.int .u16 0), .d (.int .u16 0), .d (.int .u16 0), .d (.str (⟨#[]⟩ : ByteArray))]), (1, .var [.d (.int .i64 y14.What), .d (.int .i64 y14.N), .d (.bool y14.Back), .d (.int .u16 y14.P.a0), .d (.int .u16 y14.P.a1), .d (.int .u16 y14.P.a2), .d (.int .u16 y14.P.a3), .d (.int .u16 y14.P.a4), .d (.int .u16 y14.P.a5), .d (.int .u16 y14.P.a6), .d (.int .u16 y14.P.a7), .d (.str y14.Raw)])], 2⟩) (Norm.mk [0, 1] (by decide) (by decide) (by decide) ⟨.d _, .ptr 0 _ _ (show 0 < 2 by decide), .ptr 1 _ _ (show 1 < 2 by decide), trivial⟩ ⟨⟨show 0 < 2 by decide, _, rfl, .vars ⟨.d _, .d _, .d _, .d _, .d _, .d _, .d _, .d _, .d _, .d _, .d _, .d _, trivial⟩⟩, ⟨show 1 < 2 by decide, _, rfl, .vars ⟨.d _, .d _, .d _, .d _, .d _, .d _, .d _, .d _, .d _, .d _, .d _, .d _, trivial⟩⟩, trivial⟩) ?_
      refine NWp.skip ?_
      exact And.intro rfl rfl
  obtain ⟨y21, hv, h⟩ := bindE h
  refine NWp.seqN ⟨tab [(2, .ptr 0 0 0), (3, .ptr 1 0 0)], stab [(0, .var [.d (.int .i64 0), .d (.int .i64 0), .d (.bool false), .d (.int .u16 0), .d (.int .u16 0), .d (.int .u16 0), .d (.int .u16 0), .d (.int .u16 0), .d (.int .u16 0), .d (.int .u16 0), .d (.int .u16 0), .d (.str (⟨#[]⟩ : ByteArray))]), (1, .var [.d (.int .i64 y21.What), .d (.int .i64 y21.N), .d (.bool y21.Back), .d (.int .u16 y21.P.a0), .d (.int .u16 y21.P.a1), .d (.int .u16 y21.P.a2), .d (.int .u16 y21.P.a3), .d (.int .u16 y21.P.a4), .d (.int .u16 y21.P.a5), .d (.int .u16 y21.P.a6), .d (.int .u16 y21.P.a7), .d (.str y21.Raw)])], 2⟩ ?_ ?_
  · replace h := hv
    refine NWp.opsJ ⟨tab [(1, .d (.cptr (some 12) (eapi_Deed a0) 0)), (2, .ptr 0 0 0), (3, .ptr 1 0 0), (37, .d (.bool ((a0.What == 3) || (a0.What == 4))))], stab [(0, .var [.d (.int .i64 0), .d (.int .i64 0), .d (.bool false), .d (.int .u16 0), .d (.int .u16 0), .d (.int .u16 0), .d (.int .u16 0), .d (.int .u16 0), .d (.int .u16 0), .d (.int .u16 0), .d (.int .u16 0), .d (.str (⟨#[]⟩ : ByteArray))]), (1, .var [.d (.int .i64 y17.What), .d (.int .i64 y17.N), .d (.bool y17.Back), .d (.int .u16 y17.P.a0), .d (.int .u16 y17.P.a1), .d (.int .u16 y17.P.a2), .d (.int .u16 y17.P.a3), .d (.int .u16 y17.P.a4), .d (.int .u16 y17.P.a5), .d (.int .u16 y17.P.a6), .d (.int .u16 y17.P.a7), .d (.str y17.Raw)])], 2⟩ ?_ ?_
    · refine step (v := .d (.cptr (some 12) (eapi_Deed a0) 0)) rfl ?_
      refine step (v := .d (.int .i64 a0.What)) rfl ?_
      refine step (v := .d (.bool (a0.What == 3))) rfl ?_
      refine step (v := .d (.bool (a0.What == 3))) rfl ?_
      by_cases hg19 : (a0.What == 3) = true
      · refine stepX (c := (a0.What == 3)) rfl (by rw [hg19]; decide) ?_
        refine stepX (c := (a0.What == 3)) rfl (by rw [hg19]; decide) ?_
        refine stepX (c := (a0.What == 3)) rfl (by rw [hg19]; decide) ?_
        refine step (v := .d (.bool true)) (st_pickT (b := (a0.What == 3)) rfl hg19 rfl) ?_
        exact RunOps.nil' (Norm.mk [0, 1] (by decide) (by decide) (by decide) ⟨.d _, .ptr 0 _ _ (show 0 < 2 by decide), .ptr 1 _ _ (show 1 < 2 by decide), .eq (by simp [hg19]), trivial⟩ ⟨⟨show 0 < 2 by decide, _, rfl, .vars ⟨.d _, .d _, .d _, .d _, .d _, .d _, .d _, .d _, .d _, .d _, .d _, .d _, trivial⟩⟩, ⟨show 1 < 2 by decide, _, rfl, .vars ⟨.d _, .d _, .d _, .d _, .d _, .d _, .d _, .d _, .d _, .d _, .d _, .d _, trivial⟩⟩, trivial⟩)
      · refine stepG (c := (a0.What == 3)) rfl (Bool.eq_false_iff.2 hg19) ?_
        refine step (v := .d (.cptr (some 12) (eapi_Deed a0) 0)) rfl ?_
        refine stepG (c := (a0.What == 3)) rfl (Bool.eq_false_iff.2 hg19) ?_
        refine step (v := .d (.int .i64 a0.What)) rfl ?_
        refine stepG (c := (a0.What == 3)) rfl (Bool.eq_false_iff.2 hg19) ?_
        refine step (v := .d (.bool (a0.What == 4))) rfl ?_
        refine step (v := .d (.bool (a0.What == 4))) (st_pickF (b := (a0.What == 3)) rfl hg19 rfl) ?_
        exact RunOps.nil' (Norm.mk [0, 1] (by decide) (by decide) (by decide) ⟨.d _, .ptr 0 _ _ (show 0 < 2 by decide), .ptr 1 _ _ (show 1 < 2 by decide), .eq (by simp [hg19]), trivial⟩ ⟨⟨show 0 < 2 by decide, _, rfl, .vars ⟨.d _, .d _, .d _, .d _, .d _, .d _, .d _, .d _, .d _, .d _, .d _, .d _, trivial⟩⟩, ⟨show 1 < 2 by decide, _, rfl, .vars ⟨.d _, .d _, .d _, .d _, .d _, .d _, .d _, .d _, .d _, .d _, .d _, .d _, trivial⟩⟩, trivial⟩)
    by_cases hc20 : ((a0.What == 3) || (a0.What == 4)) = true
    · replace h := iteT hc20 h
      refine NWp.condT (t := ((a0.What == 3) || (a0.What == 4))) rfl hc20 ?_
      have hh := Option.some.inj h
      subst hh
      refine NWp.opsE ⟨tab [(2, .ptr 0 0 0), (3, .ptr 1 0 0)], stab [(0, .var [.d (.int .i64 0), .d (.int .i64 0), .d (.bool false), .d (.int .u16 0), .d (.int .u16 0), .d (.int .u16 0), .d (.int .u16 0), .d (.int .u16 0), .d (.int .u16 0), .d (.int .u16 0), .d (.int .u16 0), .d (.str (⟨#[]⟩ : ByteArray))]), (1, .var [.d (.int .i64 ((api_Deed.mk y17.What y17.N a0.Back y17.P y17.Raw).What)), .d (.int .i64 ((api_Deed.mk y17.What y17.N a0.Back y17.P y17.Raw).N)), .d (.bool ((api_Deed.mk y17.What y17.N a0.Back y17.P y17.Raw).Back)), .d (.int .u16 ((api_Deed.mk y17.What y17.N a0.Back y17.P y17.Raw).P.a0)), .d (.int .u16 ((api_Deed.mk y17.What y17.N a0.Back y17.P y17.Raw).P.a1)), .d (.int .u16 ((api_Deed.mk y17.What y17.N a0.Back y17.P y17.Raw).P.a2)), .d (.int .u16 ((api_Deed.mk y17.What y17.N a0.Back y17.P y17.Raw).P.a3)), .d (.int .u16 ((api_Deed.mk y17.What y17.N a0.Back y17.P y17.Raw).P.a4)), .d (.int .u16 ((api_Deed.mk y17.What y17.N a0.Back y17.P y17.Raw).P.a5)), .d (.int .u16 ((api_Deed.mk y17.What y17.N a0.Back y17.P y17.Raw).P.a6)), .d (.int .u16 ((api_Deed.mk y17.What y17.N a0.Back y17.P y17.Raw).P.a7)), .d (.str ((api_Deed.mk y17.What y17.N a0.Back y17.P y17.Raw).Raw))])], 2⟩ ?_ ?_
      · refine step (v := .d (.cptr (some 12) (eapi_Deed a0) 2)) rfl ?_
        refine step (v := .d (.bool a0.Back)) rfl ?_
        refine step (v := .ptr 1 0 2) rfl ?_
        refine step (v := V.undef) (σ' := (upd (stab [(0, .var [.d (.int .i64 0), .d (.int .i64 0), .d (.bool false), .d (.int .u16 0), .d (.int .u16 0), .d (.int .u16 0), .d (.int .u16 0), .d (.int .u16 0), .d (.int .u16 0), .d (.int .u16 0), .d (.int .u16 0), .d (.str (⟨#[]⟩ : ByteArray))]), (1, .var [.d (.int .i64 y17.What), .d (.int .i64 y17.N), .d (.bool y17.Back), .d (.int .u16 y17.P.a0), .d (.int .u16 y17.P.a1), .d (.int .u16 y17.P.a2), .d (.int .u16 y17.P.a3), .d (.int .u16 y17.P.a4), .d (.int .u16 y17.P.a5), .d (.int .u16 y17.P.a6), .d (.int .u16 y17.P.a7), .d (.str y17.Raw)])]) 1 (some (.var [.d (.int .i64 y17.What), .d (.int .i64 y17.N), .d (.bool a0.Back), .d (.int .u16 y17.P.a0), .d (.int .u16 y17.P.a1), .d (.int .u16 y17.P.a2), .d (.int .u16 y17.P.a3), .d (.int .u16 y17.P.a4), .d (.int .u16 y17.P.a5), .d (.int .u16 y17.P.a6), .d (.int .u16 y17.P.a7), .d (.str y17.Raw)])))) (n' := 2) rfl ?_
        exact RunOps.nil' (Norm.mk [0, 1] (by decide) (by decide) (by decide) ⟨.ptr 0 _ _ (show 0 < 2 by decide), .ptr 1 _ _ (show 1 < 2 by decide), trivial⟩ ⟨⟨show 0 < 2 by decide, _, rfl, .vars ⟨.d _, .d _, .d _, .d _, .d _, .d _, .d _, .d _, .d _, .d _, .d _, .d _, trivial⟩⟩, ⟨show 1 < 2 by decide, _, rfl, .vars ⟨.d _, .d _, .d _, .d _, .d _, .d _, .d _, .d _, .d _, .d _, .d _, .d _, trivial⟩⟩, trivial⟩)
      exact And.intro rfl rfl
    · replace h := iteF hc20 h
      refine NWp.condF (t := ((a0.What == 3) || (a0.What == 4))) rfl hc20 ?_
      have hh := Option.some.inj h
      subst hh
      refine NWp.norm (s0 := ⟨tab [(2, .ptr 0 0 0), (3, .ptr 1 0 0)], stab [(0, .var [.d (.int .i64 0), .d (.int .i64 0), .d (.bool false), .d (.int .u16 0), .d (.int .u16 0), .d (.int .u16 0), .d (.int .u16 0), .d (.int .u16 0), .d (.int .u16 0), .d (.int .u16 0), .d (.int .u16 0), .d (.str (⟨#[]⟩ : ByteArray))]), (1, .var [.d (.int .i64 y17.What), .d (.int .i64 y17.N), .d (.bool y17.Back), .d (.int .u16 y17.P.a0), .d (.int .u16 y17.P.a1), .d (.int .u16 y17.P.a2), .d (.int .u16 y17.P.a3), .d (.int .u16 y17.P.a4), .d (.int .u16 y17.P.a5), .d (.int .u16 y17.P.a6), .d (.int .u16 y17.P.a7), .d (.str y17.Raw)])], 2⟩) (Norm.mk [0, 1] (by decide) (by decide) (by decide) ⟨.ptr 0 _ _ (show 0 < 2 by decide), .ptr 1 _ _ (show 1 < 2 by decide), trivial⟩ ⟨⟨show 0 < 2 by decide, _, rfl, .vars ⟨.d _, .d _, .d _, .d _, .d _, .d _, .d _, .d _, .d _, .d _, .d _, .d _, trivial⟩⟩, ⟨show 1 < 2 by decide, _, rfl, .vars ⟨.d _, .d _, .d _, .d _, .d _, .d _, .d _, .d _, .d _, .d _, .d _, .d _, trivial⟩⟩, trivial⟩) ?_
      refine NWp.skip ?_
      exact And.intro rfl rfl
  refine NWp.opsJ ⟨tab [(2, .ptr 0 0 0)], stab [(0, .var [.d (.int .i64 y21.What), .d (.int .i64 y21.N), .d (.bool y21.Back), .d (.int .u16 y21.P.a0), .d (.int .u16 y21.P.a1), .d (.int .u16 y21.P.a2), .d (.int .u16 y21.P.a3), .d (.int .u16 y21.P.a4), .d (.int .u16 y21.P.a5), .d (.int .u16 y21.P.a6), .d (.int .u16 y21.P.a7), .d (.str y21.Raw)])], 1⟩ ?_ ?_
  · refine step (v := .d (eapi_Deed y21)) (st_ldV (ds := [.int .i64 y21.What, .int .i64 y21.N, .bool y21.Back, .int .u16 y21.P.a0, .int .u16 y21.P.a1, .int .u16 y21.P.a2, .int .u16 y21.P.a3, .int .u16 y21.P.a4, .int .u16 y21.P.a5, .int .u16 y21.P.a6, .int .u16 y21.P.a7, .str y21.Raw]) rfl rfl (show 12 ≤ 12 by decide) rfl) ?_
    refine step (v := V.undef) (σ' := (upd (stab [(0, .var [.d (.int .i64 0), .d (.int .i64 0), .d (.bool false), .d (.int .u16 0), .d (.int .u16 0), .d (.int .u16 0), .d (.int .u16 0), .d (.int .u16 0), .d (.int .u16 0), .d (.int .u16 0), .d (.int .u16 0), .d (.str (⟨#[]⟩ : ByteArray))]), (1, .var [.d (.int .i64 y21.What), .d (.int .i64 y21.N), .d (.bool y21.Back), .d (.int .u16 y21.P.a0), .d (.int .u16 y21.P.a1), .d (.int .u16 y21.P.a2), .d (.int .u16 y21.P.a3), .d (.int .u16 y21.P.a4), .d (.int .u16 y21.P.a5), .d (.int .u16 y21.P.a6), .d (.int .u16 y21.P.a7), .d (.str y21.Raw)])]) 0 (some (.var [.d (.int .i64 y21.What), .d (.int .i64 y21.N), .d (.bool y21.Back), .d (.int .u16 y21.P.a0), .d (.int .u16 y21.P.a1), .d (.int .u16 y21.P.a2), .d (.int .u16 y21.P.a3), .d (.int .u16 y21.P.a4), .d (.int .u16 y21.P.a5), .d (.int .u16 y21.P.a6), .d (.int .u16 y21.P.a7), .d (.str y21.Raw)])))) (n' := 2) rfl ?_
    exact RunOps.nil' (Norm.mk [0] (by decide) (by decide) (by decide) ⟨.ptr 0 _ _ (show 0 < 1 by decide), trivial⟩ ⟨⟨show 0 < 1 by decide, _, rfl, .vars ⟨.d _, .d _, .d _, .d _, .d _, .d _, .d _, .d _, .d _, .d _, .d _, .d _, trivial⟩⟩, trivial⟩)
  have hh := Option.some.inj h
  subst hh
  refine NWp.ret ?_
  show FQ _ _ _ _
  exact FQ.mk1 (.inr rfl) (res_cell (ds := [.int .i64 y21.What, .int .i64 y21.N, .bool y21.Back, .int .u16 y21.P.a0, .int .u16 y21.P.a1, .int .u16 y21.P.a2, .int .u16 y21.P.a3, .int .u16 y21.P.a4, .int .u16 y21.P.a5, .int .u16 y21.P.a6, .int .u16 y21.P.a7, .str y21.Raw]) rfl rfl (show 12 ≤ 12 by decide) rfl rfl) (RV.d trivial)


end Go.AM
