import Derived.Test.YtfjelgjfbjjopaaAmEq
set_option linter.unusedVariables false
set_option linter.unusedSectionVars false
set_option linter.unusedSimpArgs false
namespace Go.AM
open Go Go.RowKit
variable [Glob]
section
variable {P : Program} {A : Nat → Nat → Prop} {μ : Nat → Option aJ} {σ σ' : au} {w : World} {o : Oper} {a : Act} {v : V} {n n' : Nat} {e : AX → V}
theorem kq {op : BinOp} {t : TypeId} {x y : Operand} {k k' : IntKind} {i j : Int} : (eqGuard op t x y (.int k i) (.int k' j)).run P w = .ok () w := by
  cases op <;> simp [eqGuard]
theorem py {op : BinOp} {t : TypeId} {x y : Operand} {i j : ByteArray} : (eqGuard op t x y (.string i) (.string j)).run P w = .ok () w := by
  cases op <;> simp [eqGuard]
theorem pz {op : BinOp} {t : TypeId} {x y : Operand} {i j : Bool} : (eqGuard op t x y (.bool i) (.bool j)).run P w = .ok () w := by
  cases op <;> simp [eqGuard]
theorem pA {op : BinOp} {x y : AX} {x' y' : Operand} {t t' : TypeId} (ho : o.op = .binOp op t x' y' t') (hx : aw μ (ak A μ σ) w (e x) (a.eval x')) (hy : aw μ (ak A μ σ) w (e y) (a.eval y'))
    (hs : aB A μ σ w) (hv : gq op (e x) (e y) = some v) : aZ P A μ σ w o a v σ n n := by
  unfold gq at hv
  split at hv
  · rename_i k i k' j h1 h2
    rw [h1] at hx; rw [h2] at hy
    have hri := gy hx
    have hx := cQ hx
    have hy := cQ hy
    split at hv
    · rename_i hop
      unfold lV at hv
      split at hv
      · simp at hv
      · rename_i h0
        rcases hop with rfl | rfl <;> simp at hv <;> subst hv
        · exact .val hs (cv := .int k (k.wrap (i * 2 ^ (min j.toNat k.bits)))) (by simp [execOp, ho, hx, hy, kq, binOp, Op.shift, h0]) (.d _ _ (.int _ _ (hU _ _)))
        · exact .val hs (cv := .int k (i.fdiv (2 ^ (min j.toNat k.bits)))) (by simp [execOp, ho, hx, hy, kq, binOp, Op.shift, h0]) (.d _ _ (.int _ _ (o9 hri)))
    · rename_i hop
      split at hv
      · rename_i hk
        subst hk
        cases hb : ik op k i j with
        | none => simp [hb] at hv
        | some z =>
          simp [hb] at hv
          subst hv
          have hrun : ∃ cv, (binOp op t (.int k i) (.int k j)).run P w = .ok cv w ∧ DRel (ak A μ σ) w z cv := by
            cases op <;> simp only [ik, reduceCtorEq, Option.some.injEq] at hb
            case quo =>
              split at hb
              · cases hb
              · rename_i h0; cases hb; exact ⟨_, by simp [binOp, Op.intDiv, h0], .int _ _ (hU _ _)⟩
            case rem =>
              split at hb
              · cases hb
              · rename_i h0; cases hb; exact ⟨_, by simp [binOp, Op.intDiv, h0], .int _ _ (o8 hri)⟩
            all_goals subst hb
            all_goals first
              | exact ⟨_, by simp only [binOp, ne_eq, not_true_eq_false, if_false, Op.intArith, Op.intBits, Op.intCmp, Sem.run_pure], .int _ _ (hU _ _)⟩
              | exact ⟨_, by simp only [binOp, ne_eq, not_true_eq_false, if_false, Op.intArith, Op.intBits, Op.intCmp, Sem.run_pure], .bool _⟩
          obtain ⟨cv, hr, hd⟩ := hrun
          exact .val hs (cv := cv) (by simp [execOp, ho, hx, hy, kq, hr]) (.d _ _ hd)
      · cases hv
  · rename_i s s' h1 h2
    rw [h1] at hx; rw [h2] at hy
    have hx := fq hx
    have hy := fq hy
    cases hb : j8 op s s' with
    | none => simp [hb] at hv
    | some z =>
      simp [hb] at hv
      subst hv
      have hrun : ∃ cv, (binOp op t (.string s) (.string s')).run P w = .ok cv w ∧ DRel (ak A μ σ) w z cv := by
        cases op <;> simp [j8] at hb
        case add =>
          obtain ⟨h0, rfl⟩ := hb
          refine ⟨.string (s ++ s'), ?_, .str _ (by rw [ByteArray.size_append]; unfold maxLen; omega)⟩
          have : ¬ (IntKind.i64.max < ((s.size + s'.size : Nat) : Int)) := by
            simp [IntKind.max, IntKind.signed, IntKind.bits]; omega
          simp [binOp, Op.stringOp]
          omega
        all_goals subst hb
        all_goals exact ⟨_, by simp only [binOp, Op.stringOp, Sem.run_pure], .bool _⟩
      obtain ⟨cv, hr, hd⟩ := hrun
      exact .val hs (cv := cv) (by simp [execOp, ho, hx, hy, py, hr]) (.d _ _ hd)
  · cases hv
theorem kr {neg : Bool} {t : TypeId} {u v : Value} {r : Bool} (hu : (∀ k i, u ≠ .int k i) ∧ (∀ s, u ≠ .string s) ∧ (∀ k b, u ≠ .float k b) ∧ (∀ k x y, u ≠ .complex k x y))
    (h : (Op.equalIn 10000 t u v).run P w = .ok r w) : (binOp (if neg then .neq else .eql) t u v).run P w = .ok (.bool (if neg then !r else r)) w := by
  have he : (Op.equal t u v).run P w = .ok r w := by simpa [Op.equal, Op.maxDepth] using h
  cases neg
  · simp only [Bool.false_eq_true, if_false]
    have : binOp .eql t u v = (do pure (.bool (← Op.equal t u v))) := by
      cases u <;> first | rfl | (cases v <;> rfl) | simp_all
    rw [this]; simp [he]
  · simp only [if_true]
    have : binOp .neq t u v = (do pure (.bool (!(← Op.equal t u v)))) := by
      cases u <;> first | rfl | (cases v <;> rfl) | simp_all
    rw [this]; simp [he]
theorem pB {neg : Bool} {x y : AX} {x' y' : Operand} {t t' : TypeId} {p q : Bool} (ho : o.op = .binOp (if neg then .neq else .eql) t x' y' t') (hx : aw μ (ak A μ σ) w (e x) (a.eval x')) (hy : aw μ (ak A μ σ) w (e y) (a.eval y'))
    (hs : aB A μ σ w) (ht : P.underlying t = some .bool) (h1 : e x = .d (.bool p)) (h2 : e y = .d (.bool q)) : aZ P A μ σ w o a (.d (.bool (if neg then !(p == q) else (p == q)))) σ n n := by
  rw [h1] at hx; rw [h2] at hy
  have hx := fp hx
  have hy := fp hy
  exact .val hs (cv := .bool (if neg then !(p == q) else (p == q)))
    (by simp only [execOp, ho, hx, hy, Sem.run_bind, pz, Result.andThen_ok, kr (neg := neg) ⟨by simp, by simp, by simp, by simp⟩ (run_equalIn_bool' w 9999 t p q ht), Sem.run_pure]) (.d _ _ (.bool _))
theorem pC {neg : Bool} {ks : List Ck} {x y : AX} {x' y' : Operand} {t t' : TypeId} {p q : List D} {r : Bool} (ho : o.op = .binOp (if neg then .neq else .eql) t x' y' t') (hx : aw μ (ak A μ σ) w (e x) (a.eval x')) (hy : aw μ (ak A μ σ) w (e y) (a.eval y'))
    (hs : aB A μ σ w) (hf : bK P 8 t = true) (hk : cq P 8 t = ks) (hg : P.eqGuardType P.depth t = false) (ht : (∃ fs, P.underlying t = some (.struct fs)) ∨ ∃ m el, P.underlying t = some (.array m el))
    (h1 : e x = .d (.agg p)) (h2 : e y = .d (.agg q)) (lp : p.length = P.cellsOf t) (lq : q.length = P.cellsOf t) (hr : bH ks p q = some r) : aZ P A μ σ w o a (.d (.bool (if neg then !r else r))) σ n n := by
  rw [h1] at hx; rw [h2] at hy
  subst hk
  generalize hxe : a.eval x' = u at hx
  generalize hye : a.eval y' = v at hy
  cases hx with
  | d _ _ hx => cases hx with
    | agg _ us hul hur =>
      cases hy with
      | d _ _ hy => cases hy with
        | agg _ vs hvl hvr =>
          have hcu : di P t us.toList (.agg us) := by unfold di; rcases ht with ⟨fs, ht⟩ | ⟨m, el, ht⟩ <;> simp [ht]
          have hcv : di P t vs.toList (.agg vs) := by unfold di; rcases ht with ⟨fs, ht⟩ | ⟨m, el, ht⟩ <;> simp [ht]
          have hq := jq (P := P) (w := w) (own := ak A μ σ) 8 t hf 9992 p q us.toList vs.toList (.agg us) (.agg vs) r lp lq
            ⟨by simpa using hul, fun i d v hd hv => hur i d v hd (by simpa using hv)⟩ ⟨by simpa using hvl, fun i d v hd hv => hvr i d v hd (by simpa using hv)⟩ hcu hcv hr
          refine .val hs (cv := .bool (if neg then !r else r)) ?_ (.d _ _ (.bool _))
          have hgd : ∀ op, (eqGuard op t x' y' (.agg us) (.agg vs)).run P w = .ok () w := fun op => run_eqGuard_agg w op t x' y' us vs hg
          simp only [execOp, ho, hxe, hye, Sem.run_bind, hgd, Result.andThen_ok, kr (neg := neg) ⟨by simp, by simp, by simp, by simp⟩ hq, Sem.run_pure]
theorem pD {op : BinOp} {t : TypeId} {x y : Operand} {u v : Value} (hu : u ≠ .nilIface ∧ ∀ c, u ≠ .agg c) : (eqGuard op t x y u v).run P w = .ok () w := by
  unfold eqGuard
  cases op <;> cases u <;> simp_all
theorem mq {O : Nat → Nat → Prop} {x : V} {u : Value} {b : Bool} (h : eM 0 x = some b) (hx : aw μ O w x u) : ∃ p : Option Addr, u = .pointer p ∧ p.isNone = b := by
  unfold eM at h
  split at h <;> cases h
  · cases hx with | d _ _ hd => cases hd; exact ⟨none, rfl, rfl⟩
  · cases hx with | d _ _ hd => cases hd; exact ⟨_, rfl, rfl⟩
  · cases hx; exact ⟨_, rfl, rfl⟩
  all_goals (rename_i h0; cases h0)
theorem mr {O : Nat → Nat → Prop} {x : V} {u : Value} {b : Bool} (h : eM 1 x = some b) (hx : aw μ O w x u) : ∃ p n c, u = .slice p n c ∧ p.isNone = b := by
  unfold eM at h
  split at h <;> cases h
  all_goals first | (rename_i h0; cases h0; done) | skip
  · cases hx with | d _ _ hd => cases hd; exact ⟨none, _, _, rfl, rfl⟩
  · cases hx with | d _ _ hd => cases hd; exact ⟨_, _, _, rfl, rfl⟩
  · cases hx; exact ⟨_, _, _, rfl, rfl⟩
  · cases hx; exact ⟨_, _, _, rfl, rfl⟩
theorem ms {O : Nat → Nat → Prop} {x : V} {u : Value} {b : Bool} (h : eM 2 x = some b) (hx : aw μ O w x u) : (u = .nilFunc ∧ b = true) ∨ ∃ f c d, u = .func f c d ∧ b = false := by
  unfold eM at h
  split at h <;> cases h
  all_goals first | (rename_i h0; cases h0; done) | skip
  · cases hx with | d _ _ hd => cases hd; exact .inl ⟨rfl, rfl⟩
  · cases hx with | d _ _ hd => cases hd; exact .inr ⟨_, _, _, rfl, rfl⟩
  · cases hx; exact .inr ⟨_, _, _, rfl, rfl⟩
theorem pE {q : Nat} {x y : V} {r : Bool} (h : il q x y = some r) : ∃ b c, eM q x = some b ∧ eM q y = some c ∧ ((b = true ∧ r = c) ∨ (b = false ∧ c = true ∧ r = false)) := by
  unfold il at h
  split at h
  · rename_i b h1 h2; cases h; exact ⟨_, _, h1, h2, .inl ⟨rfl, rfl⟩⟩
  · rename_i h1 h2; cases h; exact ⟨_, _, h1, h2, .inr ⟨rfl, rfl, rfl⟩⟩
  · cases h
theorem pF {neg : Bool} {q : Nat} {x y : AX} {x' y' : Operand} {t t' : TypeId} {r : Bool} (ho : o.op = .binOp (if neg then .neq else .eql) t x' y' t') (hx : aw μ (ak A μ σ) w (e x) (a.eval x')) (hy : aw μ (ak A μ σ) w (e y) (a.eval y'))
    (hs : aB A μ σ w) (ht : (∃ z, P.underlying t = some (.pointer z) ∧ q = 0) ∨ (∃ z, P.underlying t = some (.slice z) ∧ q = 1) ∨ (∃ z z' z'', P.underlying t = some (.func z z' z'') ∧ q = 2))
    (hr : il q (e x) (e y) = some r) : aZ P A μ σ w o a (.d (.bool (if neg then !r else r))) σ n n := by
  have key : (∃ u v, a.eval x' = u ∧ a.eval y' = v ∧ (u ≠ .nilIface ∧ ∀ c, u ≠ .agg c) ∧ ((∀ k i, u ≠ .int k i) ∧ (∀ s, u ≠ .string s) ∧ (∀ k b, u ≠ .float k b) ∧ (∀ k x y, u ≠ .complex k x y)) ∧
      ∀ d, (Op.equalIn (d + 1) t u v).run P w = .ok r w) := by
    refine ⟨_, _, rfl, rfl, ?_⟩
    generalize a.eval x' = u at hx
    generalize a.eval y' = v at hy
    obtain ⟨b, c, h1, h2, hbc⟩ := pE hr
    rcases ht with ⟨z, ht, rfl⟩ | ⟨z, ht, rfl⟩ | ⟨z, z', z'', ht, rfl⟩
    · obtain ⟨p, rfl, hp⟩ := mq h1 hx
      obtain ⟨p', rfl, hp'⟩ := mq h2 hy
      refine ⟨by simp, by simp, fun d => ?_⟩
      cases p <;> cases p' <;> simp at hp hp' <;> subst hp <;> subst hp' <;> simp at hbc <;> subst hbc <;> simp [Op.equalIn, run_underlying ht]
    · obtain ⟨p, m1, c1, rfl, hp⟩ := mr h1 hx
      obtain ⟨p', m2, c2, rfl, hp'⟩ := mr h2 hy
      refine ⟨by simp, by simp, fun d => ?_⟩
      cases p <;> cases p' <;> simp at hp hp' <;> subst hp <;> subst hp' <;> simp at hbc <;> subst hbc <;> simp [Op.equalIn, run_underlying ht]
    · rcases ms h1 hx with ⟨rfl, rfl⟩ | ⟨f1, f2, f3, rfl, rfl⟩ <;> rcases ms h2 hy with ⟨rfl, rfl⟩ | ⟨g1, g2, g3, rfl, rfl⟩ <;> simp at hbc <;> subst hbc <;> refine ⟨by simp, by simp, fun d => ?_⟩ <;> simp [Op.equalIn, run_underlying ht]
  obtain ⟨u, v, h1, h2, h3, h4, h5'⟩ := key
  have h5 := h5' 9999
  clear h5'
  rw [show 9999 + 1 = 10000 from rfl] at h5
  exact .val hs (cv := .bool (if neg then !r else r)) (by simp only [execOp, ho, h1, h2, Sem.run_bind, pD h3, Result.andThen_ok, kr (neg := neg) h4 h5, Sem.run_pure]) (.d _ _ (.bool _))
end
end Go.AM
