import Derived.Test.YtnnkfanmokeiaaaAmN4
set_option linter.unusedVariables false
set_option linter.unusedSectionVars false
set_option linter.unusedSimpArgs false
namespace Go.AM
open Go Go.RowKit
variable [Glob]
section
variable {P : Program} {N na : Nat}
theorem bH.dfr {Q : Exit → S → Prop} {s : S} {t G : Nat} (h : Q .normal ⟨ak s.T t V.undef, s.σ, s.n⟩) : bH P N (.dfr t G) Q s := by
  intro code hc A μ a w ⟨hs, hfr⟩
  cases code <;> simp only [cu, Bool.false_eq_true] at hc
  rename_i id ops draw
  simp only [Bool.and_eq_true, Bool.not_eq_true'] at hc
  obtain ⟨hd, hc⟩ := hc
  subst hd
  unfold kL at hc
  split at hc
  · rename_i o1 o2 hops
    simp only [Bool.and_eq_true, beq_iff_eq, decide_eq_true_eq, Option.isNone_iff_eq_none, List.contains_iff_mem] at hc
    obtain ⟨⟨⟨⟨⟨⟨⟨g1, g2⟩, d1⟩, htN⟩, d2⟩, hG⟩, m1⟩, m2⟩ := hc
    have e : ops = #[o1, o2] := Array.toList_inj.1 (by simpa using hops)
    subst e
    refine wp_region ?_
    have hr : List.range (#[o1, o2] : Array Oper).size = [0, 1] := rfl
    rw [hr]
    split at m1
    · rename_i gg first caps ho1
      simp only [Bool.and_eq_true, beq_iff_eq] at m1
      obtain ⟨rfl, hf⟩ := m1
      have e0 : first = #[] := Array.eq_empty_of_size_eq_zero hf
      subst e0
      split at m2
      · rename_i c ho2
        simp only [Bool.and_eq_true, beq_iff_eq] at m2
        obtain ⟨m2, m3⟩ := m2
        split at m2
        · rename_i q hq
          have m2 := beq_iff_eq.1 m2
          subst m2
          have ha : c.args = #[] := Array.eq_empty_of_size_eq_zero m3
          obtain ⟨callee, args, argTypes⟩ := c
          simp only at hq ha
          subst hq; subst ha
          simp only [wpOps]
          have w1 : Region.wanted o1 (yielded #[o1, o2] a.tmps) = true := by simp [Region.wanted, g1]
          have gg0 : (#[o1, o2] : Array Oper)[0]? = some o1 := rfl
          have gg1 : (#[o1, o2] : Array Oper)[1]? = some o2 := rfl
          simp only [gg0, gg1, w1, if_true]
          left
          have r1 : (execOp a.eval o1).run P w = .ok (.value (.func (.func gg) #[] (caps.map a.eval))) w := by simp [execOp, ho1, Instr.makeFunc]
          unfold Oper.wp
          rw [r1, Oper.upon_value, d1]
          have w2 : Region.wanted o2 (yielded #[o1, o2] (a.put (some q) (.func (.func gg) #[] (caps.map a.eval))).tmps) = true := by simp [Region.wanted, g2]
          simp only [w2, if_true]
          left
          have hqs : q < a.tmps.size := by rw [hs.size]; exact htN
          have r2 : (execOp (a.put (some q) (.func (.func gg) #[] (caps.map a.eval))).eval o2).run P w = .ok (.defer { target := .fn (.func gg) (caps.map a.eval), args := #[] }) w := by
            simp [execOp, ho2, resolve, go_sem, hqs]
          rw [r2, Oper.upon_defer, d2]
          refine ⟨trivial, ⟨ak s.T q V.undef, s.σ, s.n⟩, μ, h, ⟨⟨?_, ?_, fun i => ?_, hs.store⟩, hfr⟩, aL.refl _ _ _, ez.refl _ _⟩
          · simp [Act.put, hs.size]
          · intro d hd
            simp only [Act.put, List.mem_cons] at hd
            rcases hd with rfl | hd
            · exact ⟨rfl, gg, _, hG, rfl⟩
            · exact hs.defers d hd
          · show aD μ (au A μ s.σ) w (ak s.T q V.undef i) _
            by_cases e : i = q
            · subst e; rw [bb]; exact .d _ _ (.undef _)
            · rw [aM _ _ e]
              have := hs.tmps i
              simp only [Act.put]
              rw [Array.getD_eq_getD_getElem?, Array.getElem?_setIfInBounds_ne (fun h => e h.symm), ← Array.getD_eq_getD_getElem?]
              exact this
        · cases m2
      · cases m2
    · cases m1
  · cases hc
theorem aK.dfr {Q : Exit → S → Prop} {s : S} {t G : Nat} (h : Q .normal ⟨ak s.T t V.undef, s.σ, s.n⟩) : aK P N na (.dfr t G) Q s := (bH.dfr h).nwp
theorem rF {Q : Exit → S → Prop} {s : S} {t G : Nat} {y : bv} (h : aK P N na y Q ⟨ak s.T t V.undef, s.σ, s.n⟩) : aK P N na (.seq (.dfr t G) y) Q s := aF (aK.dfr h)
end
end Go.AM
