import Derived.Test.YtnnkfanmokeiaaaAmOps3
import Derived.Laws.StructEq
/-  Several texts in one. -/
section
set_option linter.unusedVariables false
set_option linter.unusedSectionVars false
set_option linter.unusedSimpArgs false
namespace Go.AM
open Go Go.RowKit
variable [Glob]
theorem pC : ∀ {k l : List Ck} {a c b d : List D}, a.length = k.length → c.length = k.length → cK (k ++ l) (a ++ b) (c ++ d) = match cK k a c with
    | some true => cK l b d
    | some false => some false
    | none => none
  | [], l, [], [], b, d, _, _ => rfl
  | q :: k, l, x :: a, y :: c, b, d, h, h' => by
    simp only [List.cons_append, cK]
    cases dL q x y with
    | none => rfl
    | some r => cases r with
      | true => exact pC (by simpa using h) (by simpa using h')
      | false => rfl
  | [], _, _ :: _, _, _, _, h, _ => by simp at h
  | [], _, _, _ :: _, _, _, _, h => by simp at h
  | _ :: _, _, [], _, _, _, h, _ => by simp at h
  | _ :: _, _, _, [], _, _, _, h => by simp at h
def fT (P : Program) (t : TypeId) (us : List Value) (u : Value) : Prop :=
  match P.underlying t with
  | some (.struct _) | some (.array _ _) => u = .agg us.toArray
  | _ => us = [u]
section
variable {P : Program} {w : World} {own : Nat → Nat → Prop}
def fz (own : Nat → Nat → Prop) (w : World) (ds : List D) (us : List Value) : Prop := ds.length = us.length ∧ ∀ (i : Nat) d v, ds[i]? = some d → us[i]? = some v → DRel own w d v
theorem fz.take {ds : List D} {us : List Value} (h : fz own w ds us) (n : Nat) : fz own w (ds.take n) (us.take n) :=
  ⟨by simp [h.1], fun i d v hd hv => by
    rw [List.getElem?_take] at hd hv
    split at hd
    · rename_i hi; rw [if_pos hi] at hv; exact h.2 i d v hd hv
    · cases hd⟩
theorem fz.drop {ds : List D} {us : List Value} (h : fz own w ds us) (n : Nat) : fz own w (ds.drop n) (us.drop n) :=
  ⟨by simp [h.1], fun i d v hd hv => by rw [List.getElem?_drop] at hd hv; exact h.2 _ d v hd hv⟩
theorem pD {d : Nat} {t : TypeId} (h : cP P d t = true) : 0 < P.cellsOf t ∧ ∃ i, P.info? t = some i := by
  cases d with
  | zero => simp [cP] at h
  | succ d =>
    unfold cP at h
    cases hu : P.underlying t with
    | none => simp [hu] at h
    | some u =>
      refine ⟨?_, sn hu⟩
      rw [hu] at h
      cases u <;> simp at h <;> omega
theorem sF {d : Nat} (ih : ∀ t, cP P d t = true → (dM P d t).length = P.cellsOf t) : ∀ (fs : List Field) (off : Nat), iL P (cP P d) fs off = true →
    (fs.flatMap fun f => dM P d f.type).length + off = fh P fs off
  | [], off, _ => by simp [fh]
  | f :: fs, off, h => by
    simp only [iL, Bool.and_eq_true] at h
    have := sF ih fs _ h.2
    simp only [List.flatMap_cons, List.length_append, fh, ih f.type h.1.2]
    omega
theorem ji : ∀ (d : Nat) (t : TypeId), cP P d t = true → (dM P d t).length = P.cellsOf t
  | 0, _, h => by simp [cP] at h
  | d + 1, t, h => by
    unfold cP at h
    unfold dM
    cases hu : P.underlying t with
    | none => simp [hu] at h
    | some u =>
      rw [hu] at h
      cases u <;> simp at h
      · simp [h]
      · simp [h]
      · simp [h]
      · rw [h.2]; simp [ji d _ h.1.2]
      · have := sF (ji d) _ 0 h.1.2
        simp only; omega
theorem kQ {d : Nat} {t : TypeId} (h : cP P d t = true) (us : List Value) (off : Nat) (hle : off + P.cellsOf t ≤ us.length) :
    ∃ v, (part t us.toArray off).run P w = .ok v w ∧ fT P t ((us.drop off).take (P.cellsOf t)) v := by
  obtain ⟨h0, i, hi⟩ := pD h
  have hsz := jZ (w := w) hi
  cases d with
  | zero => simp [cP] at h
  | succ d =>
    unfold cP at h
    unfold fT
    cases hu : P.underlying t with
    | none => simp [hu] at h
    | some u =>
      rw [hu] at h
      have hr := b9 (w := w) hu
      have hone : P.cellsOf t = 1 → (isAgg t).run P w = .ok false w → ∃ v, (part t us.toArray off).run P w = .ok v w ∧ (us.drop off).take (P.cellsOf t) = [v] := by
        intro h1 h2
        have hlt : off < us.length := by omega
        refine ⟨us[off], by simp [part, h2, hlt], ?_⟩
        rw [h1]
        apply List.ext_getElem?
        intro j
        rw [List.getElem?_take]
        cases j with
        | zero => simp [hlt]
        | succ j => simp
      have hagg : (isAgg t).run P w = .ok true w → ∃ v, (part t us.toArray off).run P w = .ok v w ∧ v = .agg ((us.drop off).take (P.cellsOf t)).toArray := by
        intro h2
        refine ⟨_, by simp [part, h2, hsz]; rfl, ?_⟩
        simp [List.extract_eq_take_drop]
      cases u <;> simp at h
      · exact hone h (by simp [isAgg, hr])
      · exact hone h (by simp [isAgg, hr])
      · exact hone h (by simp [isAgg, hr])
      · exact hagg (by simp [isAgg, hr])
      · exact hagg (by simp [isAgg, hr])
theorem sG {d dd : Nat} (ih : ∀ t, cP P d t = true → ∀ (xs ys : List D) (us vs : List Value) (u v : Value) (b : Bool), xs.length = P.cellsOf t → ys.length = P.cellsOf t → fz own w xs us → fz own w ys vs →
      fT P t us u → fT P t vs v → cK (dM P d t) xs ys = some b → (Op.equalIn dd t u v).run P w = .ok b w) (us vs : List Value) :
    ∀ (fs : List Field) (off : Nat) (xs ys : List D) (b : Bool), iL P (cP P d) fs off = true → fh P fs off = us.length → us.length = vs.length → fz own w xs (us.drop off) → fz own w ys (vs.drop off) →
      cK (fs.flatMap fun f => dM P d f.type) xs ys = some b → (Op.eqFields dd us.toArray vs.toArray fs).run P w = .ok b w
  | [], off, xs, ys, b, _, he, hl, hx, hy, hb => by
    have e1 : xs = [] := List.eq_nil_of_length_eq_zero (by rw [hx.1]; simp [fh] at he; simp; omega)
    have e2 : ys = [] := List.eq_nil_of_length_eq_zero (by rw [hy.1]; simp [fh] at he; simp; omega)
    subst e1; subst e2
    simp [cK] at hb; subst hb
    simp [Op.eqFields]
  | f :: fs, off, xs, ys, b, hf, he, hl, hx, hy, hb => by
    simp only [iL, Bool.and_eq_true, bne_iff_ne, beq_iff_eq] at hf
    obtain ⟨⟨⟨hn, hoff⟩, hok⟩, hrest⟩ := hf
    simp only [fh] at he
    have hend : ∀ (fs : List Field) (o : Nat), o ≤ fh P fs o := by
      intro fs
      induction fs with
      | nil => intro o; simp [fh]
      | cons g gs ihg => intro o; simp only [fh]; have := ihg (o + P.cellsOf g.type); omega
    have hle : off + P.cellsOf f.type ≤ us.length := by have := hend fs (off + P.cellsOf f.type); omega
    obtain ⟨p, hp1, hp2⟩ := kQ (w := w) hok us off hle
    obtain ⟨q, hq1, hq2⟩ := kQ (w := w) hok vs off (by omega)
    have lx : xs.length = us.length - off := by rw [hx.1]; simp
    have ly : ys.length = vs.length - off := by rw [hy.1]; simp
    have hlen := ji d f.type hok
    have hsplit : cK ((f :: fs).flatMap fun f => dM P d f.type) xs ys = match cK (dM P d f.type) (xs.take (P.cellsOf f.type)) (ys.take (P.cellsOf f.type)) with
        | some true => cK (fs.flatMap fun f => dM P d f.type) (xs.drop (P.cellsOf f.type)) (ys.drop (P.cellsOf f.type))
        | some false => some false
        | none => none := by
      rw [List.flatMap_cons, ← pC (by simp; omega) (by simp; omega), List.take_append_drop, List.take_append_drop]
    rw [hb] at hsplit
    have hx2 := hx.take (P.cellsOf f.type)
    have hy2 := hy.take (P.cellsOf f.type)
    have hx3 := hx.drop (P.cellsOf f.type)
    have hy3 := hy.drop (P.cellsOf f.type)
    simp only [List.drop_drop] at hx3 hy3
    cases hr : cK (dM P d f.type) (xs.take (P.cellsOf f.type)) (ys.take (P.cellsOf f.type)) with
    | none => simp [hr] at hsplit
    | some r =>
      have h1 := ih f.type hok _ _ _ _ p q r (by simp; omega) (by simp; omega) hx2 hy2 hp2 hq2 hr
      cases r with
      | false =>
        simp [hr] at hsplit
        subst hsplit
        simp [Op.eqFields, hn, hoff, hp1, hq1, h1]
      | true =>
        simp [hr] at hsplit
        have h2 := sG ih us vs fs (off + P.cellsOf f.type) _ _ b hrest he hl hx3 hy3 hsplit.symm
        simp [Op.eqFields, hn, hoff, hp1, hq1, h1, h2]
def j3 (dd : Nat) (el : TypeId) (xs ys : Array Value) (n : Nat) : List Nat → Sem Bool
  | [] => pure true
  | i :: l => do
    let a ← part el xs (i * n)
    let b ← part el ys (i * n)
    let r ← Op.equalIn dd el a b
    if (!r) = true then pure false else j3 dd el xs ys n l
theorem xN (dd : Nat) (t el : TypeId) (m : Nat) (xs ys : Array Value) (i : TypeInfo) (ht : P.underlying t = some (.array m el)) (hi : P.info? el = some i) :
    (Op.equalIn (dd + 1) t (.agg xs) (.agg ys)).run P w = (j3 dd el xs ys (P.cellsOf el) (List.range m)).run P w := by
  simp only [Op.equalIn, Sem.run_bind, run_underlying ht, Result.andThen_ok, jZ hi]
  simp only [Std.Legacy.Range.forIn_eq_forIn_range', Std.Legacy.Range.size]
  simp only [Nat.sub_zero, Nat.add_sub_cancel, Nat.div_one, ← List.range_eq_range']
  generalize List.range m = l
  clear ht
  induction l generalizing w with
  | nil => simp [j3]
  | cons j l ih =>
    simp only [List.forIn_cons, j3, Sem.run_bind]
    generalize (part el xs (j * P.cellsOf el)).run P w = r1
    cases r1 with
    | ok a w1 =>
      simp only [Result.andThen_ok]
      generalize (part el ys (j * P.cellsOf el)).run P w1 = r2
      cases r2 with
      | ok b w2 =>
        simp only [Result.andThen_ok]
        generalize (Op.equalIn dd el a b).run P w2 = r3
        cases r3 with
        | ok r w3 =>
          cases r
          · simp
          · simpa using ih (w := w3)
        | halt x w3 => simp [Result.andThen]
      | halt x w2 => simp [Result.andThen]
    | halt x w1 => simp [Result.andThen]
theorem sH {d dd : Nat} {el : TypeId} (hok : cP P d el = true)
    (ih : ∀ (xs ys : List D) (us vs : List Value) (u v : Value) (b : Bool), xs.length = P.cellsOf el → ys.length = P.cellsOf el → fz own w xs us → fz own w ys vs →
      fT P el us u → fT P el vs v → cK (dM P d el) xs ys = some b → (Op.equalIn dd el u v).run P w = .ok b w) (us vs : List Value) :
    ∀ (m j : Nat) (xs ys : List D) (b : Bool), us.length = (j + m) * P.cellsOf el → us.length = vs.length → fz own w xs (us.drop (j * P.cellsOf el)) → fz own w ys (vs.drop (j * P.cellsOf el)) →
      cK (List.replicate m (dM P d el)).flatten xs ys = some b → (j3 dd el us.toArray vs.toArray (P.cellsOf el) (List.range' j m)).run P w = .ok b w
  | 0, j, xs, ys, b, he, hl, hx, hy, hb => by
    have e1 : xs = [] := List.eq_nil_of_length_eq_zero (by rw [hx.1]; simp at he; simp; omega)
    have e2 : ys = [] := List.eq_nil_of_length_eq_zero (by rw [hy.1]; simp at he; simp; omega)
    subst e1; subst e2
    simp [cK] at hb; subst hb
    simp [j3]
  | m + 1, j, xs, ys, b, he, hl, hx, hy, hb => by
    have hmul : (j + (m + 1)) * P.cellsOf el = j * P.cellsOf el + P.cellsOf el + m * P.cellsOf el := by
      rw [Nat.add_mul, Nat.add_mul]; omega
    have hle : j * P.cellsOf el + P.cellsOf el ≤ us.length := by omega
    obtain ⟨p, hp1, hp2⟩ := kQ (w := w) hok us (j * P.cellsOf el) hle
    obtain ⟨q, hq1, hq2⟩ := kQ (w := w) hok vs (j * P.cellsOf el) (by omega)
    have lx : xs.length = us.length - j * P.cellsOf el := by rw [hx.1]; simp
    have ly : ys.length = vs.length - j * P.cellsOf el := by rw [hy.1]; simp
    have hlen := ji d el hok
    have hsplit : cK (List.replicate (m + 1) (dM P d el)).flatten xs ys = match cK (dM P d el) (xs.take (P.cellsOf el)) (ys.take (P.cellsOf el)) with
        | some true => cK (List.replicate m (dM P d el)).flatten (xs.drop (P.cellsOf el)) (ys.drop (P.cellsOf el))
        | some false => some false
        | none => none := by
      rw [List.replicate_succ, List.flatten_cons, ← pC (by simp; omega) (by simp; omega), List.take_append_drop, List.take_append_drop]
    rw [hb] at hsplit
    have hx2 := hx.take (P.cellsOf el)
    have hy2 := hy.take (P.cellsOf el)
    have hx3 := hx.drop (P.cellsOf el)
    have hy3 := hy.drop (P.cellsOf el)
    simp only [List.drop_drop] at hx3 hy3
    rw [show j * P.cellsOf el + P.cellsOf el = (j + 1) * P.cellsOf el by rw [Nat.add_mul]; omega] at hx3 hy3
    simp only [List.range'_succ, j3]
    cases hr : cK (dM P d el) (xs.take (P.cellsOf el)) (ys.take (P.cellsOf el)) with
    | none => simp [hr] at hsplit
    | some r =>
      have h1 := ih _ _ _ _ p q r (by simp; omega) (by simp; omega) hx2 hy2 hp2 hq2 hr
      cases r with
      | false =>
        simp [hr] at hsplit
        subst hsplit
        simp [hp1, hq1, h1]
      | true =>
        simp [hr] at hsplit
        have h2 := sH hok ih us vs m (j + 1) _ _ b (by rw [he]; congr 1; omega) hl hx3 hy3 hsplit.symm
        simp [hp1, hq1, h1, h2]
theorem xO {k : Ck} {x y : D} {b : Bool} (h : cK [k] [x] [y] = some b) : dL k x y = some b := by
  simp only [cK] at h
  cases hc : dL k x y with
  | none => simp [hc] at h
  | some r => cases r <;> simp [hc] at h <;> subst h <;> rfl
theorem pE {x y : D} {b : Bool} (h : dL .bool x y = some b) : ∃ p q, x = .bool p ∧ y = .bool q ∧ b = (p == q) := by
  cases x <;> cases y <;> simp [dL] at h
  exact ⟨_, _, rfl, rfl, h.symm⟩
theorem pF {x y : D} {b : Bool} (h : dL .int x y = some b) : ∃ k p q, x = .int k p ∧ y = .int k q ∧ b = (p == q) := by
  cases x <;> cases y <;> simp [dL] at h
  obtain ⟨rfl, h⟩ := h
  exact ⟨_, _, _, rfl, rfl, h.symm⟩
theorem pG {x y : D} {b : Bool} (h : dL .str x y = some b) : ∃ p q, x = .str p ∧ y = .str q ∧ b = (p.toList == q.toList) := by
  cases x <;> cases y <;> simp [dL] at h
  exact ⟨_, _, rfl, rfl, h.symm⟩
theorem nE : ∀ (d : Nat) (t : TypeId), cP P d t = true → ∀ (k : Nat) (xs ys : List D) (us vs : List Value) (u v : Value) (b : Bool), xs.length = P.cellsOf t → ys.length = P.cellsOf t →
    fz own w xs us → fz own w ys vs → fT P t us u → fT P t vs v → cK (dM P d t) xs ys = some b → (Op.equalIn (d + k) t u v).run P w = .ok b w
  | 0, t, h, _, _, _, _, _, _, _, _, _, _, _, _, _, _, _ => by simp [cP] at h
  | d + 1, t, h, k, xs, ys, us, vs, u, v, b, lx, ly, hx, hy, hu, hv, hb => by
    unfold cP at h
    unfold fT at hu hv
    unfold dM at hb
    cases hty : P.underlying t with
    | none => simp [hty] at h
    | some ty =>
      rw [hty] at h hu hv hb
      have hone : ∀ q, P.cellsOf t = 1 → us = [u] → vs = [v] → cK [q] xs ys = some b → ∃ x y, dL q x y = some b ∧ DRel own w x u ∧ DRel own w y v := by
        intro q h1 hu hv hb
        subst hu; subst hv
        match xs, lx.trans h1, ys, ly.trans h1 with
        | [x], _, [y], _ => exact ⟨x, y, xO hb, hx.2 0 x u (by simp) (by simp), hy.2 0 y v (by simp) (by simp)⟩
      rw [show d + 1 + k = (d + k) + 1 by omega]
      cases ty <;> simp at h
      · obtain ⟨x, y, hc, hxu, hyv⟩ := hone .bool h hu hv hb
        obtain ⟨p, q, rfl, rfl, rfl⟩ := pE hc
        cases hxu; cases hyv; exact run_equalIn_bool' w _ t _ _ hty
      · obtain ⟨x, y, hc, hxu, hyv⟩ := hone .int h hu hv hb
        obtain ⟨k', p, q, rfl, rfl, rfl⟩ := pF hc
        cases hxu; cases hyv; exact run_equalIn_int w _ t k' _ _ _ hty
      · obtain ⟨x, y, hc, hxu, hyv⟩ := hone .str h hu hv hb
        obtain ⟨p, q, rfl, rfl, rfl⟩ := pG hc
        cases hxu; cases hyv; exact run_equalIn_string w _ t _ _ hty
      · rename_i m el
        simp only at hu hv hb
        subst hu; subst hv
        obtain ⟨_, i, hi⟩ := pD h.1.2
        rw [xN _ t el m _ _ i hty hi, List.range_eq_range']
        have l1 : us.length = P.cellsOf t := by rw [← hx.1]; exact lx
        have l2 : vs.length = P.cellsOf t := by rw [← hy.1]; exact ly
        exact sH h.1.2 (fun xs ys us vs u v b a1 a2 a3 a4 a5 a6 a7 => nE d el h.1.2 k xs ys us vs u v b a1 a2 a3 a4 a5 a6 a7) us vs m 0 xs ys b (by rw [l1, h.2]; simp) (by omega) (by simpa using hx) (by simpa using hy) hb
      · rename_i fs
        simp only at hu hv hb
        subst hu; subst hv
        have l1 : us.length = P.cellsOf t := by rw [← hx.1]; exact lx
        have l2 : vs.length = P.cellsOf t := by rw [← hy.1]; exact ly
        have hfs : P.fieldsOf t = fs := by simp [Program.fieldsOf, hty]
        rw [run_equalIn_struct w _ t _ _ (by rw [hfs]; exact hty) h.1.1.1, hfs]
        exact sG (fun t ht xs ys us vs u v b a1 a2 a3 a4 a5 a6 a7 => nE d t ht k xs ys us vs u v b a1 a2 a3 a4 a5 a6 a7) us vs fs.toList 0 xs ys b h.1.2 (by rw [l1]; exact h.2) (by omega) (by simpa using hx) (by simpa using hy) hb
end
end Go.AM
end
section
set_option linter.unusedVariables false
set_option linter.unusedSectionVars false
set_option linter.unusedSimpArgs false
namespace Go.AM
open Go Go.RowKit
variable [Glob]
section
variable {P : Program} {A : Nat → Nat → Prop} {μ : Nat → Option bI} {σ σ' : aL} {w : World} {o : Oper} {a : Act} {v : V} {n n' : Nat} {e : AX → V}
theorem pH {op : BinOp} {t : TypeId} {x y : Operand} {k k' : IntKind} {i j : Int} : (eqGuard op t x y (.int k i) (.int k' j)).run P w = .ok () w := by
  cases op <;> simp [eqGuard]
theorem xP {op : BinOp} {t : TypeId} {x y : Operand} {i j : ByteArray} : (eqGuard op t x y (.string i) (.string j)).run P w = .ok () w := by
  cases op <;> simp [eqGuard]
theorem xQ {op : BinOp} {t : TypeId} {x y : Operand} {i j : Bool} : (eqGuard op t x y (.bool i) (.bool j)).run P w = .ok () w := by
  cases op <;> simp [eqGuard]
theorem xR {op : BinOp} {x y : AX} {x' y' : Operand} {t t' : TypeId} (ho : o.op = .binOp op t x' y' t') (hx : aR μ (aD A μ σ) w (e x) (a.eval x')) (hy : aR μ (aD A μ σ) w (e y) (a.eval y'))
    (hs : bm A μ σ w) (hv : kI op (e x) (e y) = some v) : bV P A μ σ w o a v σ n n := by
  unfold kI at hv
  split at hv
  · rename_i k i k' j h1 h2
    rw [h1] at hx; rw [h2] at hy
    have hri := kO hx
    have hx := fy hx
    have hy := fy hy
    split at hv
    · rename_i hop
      unfold sm at hv
      split at hv
      · simp at hv
      · rename_i h0
        rcases hop with rfl | rfl <;> simp at hv <;> subst hv
        · exact .val hs (cv := .int k (k.wrap (i * 2 ^ (min j.toNat k.bits)))) (by simp [execOp, ho, hx, hy, pH, binOp, Op.shift, h0]) (.d _ _ (.int _ _ (lL _ _)))
        · exact .val hs (cv := .int k (i.fdiv (2 ^ (min j.toNat k.bits)))) (by simp [execOp, ho, hx, hy, pH, binOp, Op.shift, h0]) (.d _ _ (.int _ _ (xr hri)))
    · rename_i hop
      split at hv
      · rename_i hk
        subst hk
        cases hb : lP op k i j with
        | none => simp [hb] at hv
        | some z =>
          simp [hb] at hv
          subst hv
          have hrun : ∃ cv, (binOp op t (.int k i) (.int k j)).run P w = .ok cv w ∧ DRel (aD A μ σ) w z cv := by
            cases op <;> simp only [lP, reduceCtorEq, Option.some.injEq] at hb
            case quo =>
              split at hb
              · cases hb
              · rename_i h0; cases hb; exact ⟨_, by simp [binOp, Op.intDiv, h0], .int _ _ (lL _ _)⟩
            case rem =>
              split at hb
              · cases hb
              · rename_i h0; cases hb; exact ⟨_, by simp [binOp, Op.intDiv, h0], .int _ _ (xp hri)⟩
            all_goals subst hb
            all_goals first
              | exact ⟨_, by simp only [binOp, ne_eq, not_true_eq_false, if_false, Op.intArith, Op.intBits, Op.intCmp, Sem.run_pure], .int _ _ (lL _ _)⟩
              | exact ⟨_, by simp only [binOp, ne_eq, not_true_eq_false, if_false, Op.intArith, Op.intBits, Op.intCmp, Sem.run_pure], .bool _⟩
          obtain ⟨cv, hr, hd⟩ := hrun
          exact .val hs (cv := cv) (by simp [execOp, ho, hx, hy, pH, hr]) (.d _ _ hd)
      · cases hv
  · rename_i s s' h1 h2
    rw [h1] at hx; rw [h2] at hy
    have hx := jh hx
    have hy := jh hy
    cases hb : pu op s s' with
    | none => simp [hb] at hv
    | some z =>
      simp [hb] at hv
      subst hv
      have hrun : ∃ cv, (binOp op t (.string s) (.string s')).run P w = .ok cv w ∧ DRel (aD A μ σ) w z cv := by
        cases op <;> simp [pu] at hb
        case add =>
          obtain ⟨h0, rfl⟩ := hb
          refine ⟨.string (s ++ s'), ?_, .str _ (by rw [ByteArray.size_append]; unfold maxLen; omega)⟩
          have : ¬ (IntKind.i64.max < ((s.size + s'.size : Nat) : Int)) := by
            simp [IntKind.max, IntKind.signed, IntKind.bits]; omega
          simp [binOp, Op.stringOp]
          omega
        all_goals subst hb
        all_goals exact ⟨_, by simp only [binOp, Op.stringOp, Sem.run_pure], .bool _⟩
      obtain ⟨cv, hr, hd⟩ := hrun
      exact .val hs (cv := cv) (by simp [execOp, ho, hx, hy, xP, hr]) (.d _ _ hd)
  · cases hv
theorem pI {neg : Bool} {t : TypeId} {u v : Value} {r : Bool} (hu : (∀ k i, u ≠ .int k i) ∧ (∀ s, u ≠ .string s) ∧ (∀ k b, u ≠ .float k b) ∧ (∀ k x y, u ≠ .complex k x y))
    (h : (Op.equalIn 10000 t u v).run P w = .ok r w) : (binOp (if neg then .neq else .eql) t u v).run P w = .ok (.bool (if neg then !r else r)) w := by
  have he : (Op.equal t u v).run P w = .ok r w := by simpa [Op.equal, Op.maxDepth] using h
  cases neg
  · simp only [Bool.false_eq_true, if_false]
    have : binOp .eql t u v = (do pure (.bool (← Op.equal t u v))) := by
      cases u <;> first | rfl | (cases v <;> rfl) | simp_all
    rw [this]; simp [he]
  · simp only [if_true]
    have : binOp .neq t u v = (do pure (.bool (!(← Op.equal t u v)))) := by
      cases u <;> first | rfl | (cases v <;> rfl) | simp_all
    rw [this]; simp [he]
theorem xS {neg : Bool} {x y : AX} {x' y' : Operand} {t t' : TypeId} {p q : Bool} (ho : o.op = .binOp (if neg then .neq else .eql) t x' y' t') (hx : aR μ (aD A μ σ) w (e x) (a.eval x')) (hy : aR μ (aD A μ σ) w (e y) (a.eval y'))
    (hs : bm A μ σ w) (ht : P.underlying t = some .bool) (h1 : e x = .d (.bool p)) (h2 : e y = .d (.bool q)) : bV P A μ σ w o a (.d (.bool (if neg then !(p == q) else (p == q)))) σ n n := by
  rw [h1] at hx; rw [h2] at hy
  have hx := j1 hx
  have hy := j1 hy
  exact .val hs (cv := .bool (if neg then !(p == q) else (p == q)))
    (by simp only [execOp, ho, hx, hy, Sem.run_bind, xQ, Result.andThen_ok, pI (neg := neg) ⟨by simp, by simp, by simp, by simp⟩ (run_equalIn_bool' w 9999 t p q ht), Sem.run_pure]) (.d _ _ (.bool _))
theorem xT {neg : Bool} {ks : List Ck} {x y : AX} {x' y' : Operand} {t t' : TypeId} {p q : List D} {r : Bool} (ho : o.op = .binOp (if neg then .neq else .eql) t x' y' t') (hx : aR μ (aD A μ σ) w (e x) (a.eval x')) (hy : aR μ (aD A μ σ) w (e y) (a.eval y'))
    (hs : bm A μ σ w) (hf : cP P 8 t = true) (hk : dM P 8 t = ks) (hg : P.eqGuardType P.depth t = false) (ht : (∃ fs, P.underlying t = some (.struct fs)) ∨ ∃ m el, P.underlying t = some (.array m el))
    (h1 : e x = .d (.agg p)) (h2 : e y = .d (.agg q)) (lp : p.length = P.cellsOf t) (lq : q.length = P.cellsOf t) (hr : cK ks p q = some r) : bV P A μ σ w o a (.d (.bool (if neg then !r else r))) σ n n := by
  rw [h1] at hx; rw [h2] at hy
  subst hk
  generalize hxe : a.eval x' = u at hx
  generalize hye : a.eval y' = v at hy
  cases hx with
  | d _ _ hx => cases hx with
    | agg _ us hul hur =>
      cases hy with
      | d _ _ hy => cases hy with
        | agg _ vs hvl hvr =>
          have hcu : fT P t us.toList (.agg us) := by unfold fT; rcases ht with ⟨fs, ht⟩ | ⟨m, el, ht⟩ <;> simp [ht]
          have hcv : fT P t vs.toList (.agg vs) := by unfold fT; rcases ht with ⟨fs, ht⟩ | ⟨m, el, ht⟩ <;> simp [ht]
          have hq := nE (P := P) (w := w) (own := aD A μ σ) 8 t hf 9992 p q us.toList vs.toList (.agg us) (.agg vs) r lp lq
            ⟨by simpa using hul, fun i d v hd hv => hur i d v hd (by simpa using hv)⟩ ⟨by simpa using hvl, fun i d v hd hv => hvr i d v hd (by simpa using hv)⟩ hcu hcv hr
          refine .val hs (cv := .bool (if neg then !r else r)) ?_ (.d _ _ (.bool _))
          have hgd : ∀ op, (eqGuard op t x' y' (.agg us) (.agg vs)).run P w = .ok () w := fun op => run_eqGuard_agg w op t x' y' us vs hg
          simp only [execOp, ho, hxe, hye, Sem.run_bind, hgd, Result.andThen_ok, pI (neg := neg) ⟨by simp, by simp, by simp, by simp⟩ hq, Sem.run_pure]
theorem xU {op : BinOp} {t : TypeId} {x y : Operand} {u v : Value} (hu : u ≠ .nilIface ∧ ∀ c, u ≠ .agg c) : (eqGuard op t x y u v).run P w = .ok () w := by
  unfold eqGuard
  cases op <;> cases u <;> simp_all
theorem sI {O : Nat → Nat → Prop} {x : V} {u : Value} {b : Bool} (h : ip 0 x = some b) (hx : aR μ O w x u) : ∃ p : Option Addr, u = .pointer p ∧ p.isNone = b := by
  unfold ip at h
  split at h <;> cases h
  · cases hx with | d _ _ hd => cases hd; exact ⟨none, rfl, rfl⟩
  · cases hx with | d _ _ hd => cases hd; exact ⟨_, rfl, rfl⟩
  · cases hx; exact ⟨_, rfl, rfl⟩
  all_goals (rename_i h0; cases h0)
theorem sJ {O : Nat → Nat → Prop} {x : V} {u : Value} {b : Bool} (h : ip 1 x = some b) (hx : aR μ O w x u) : ∃ p n c, u = .slice p n c ∧ p.isNone = b := by
  unfold ip at h
  split at h <;> cases h
  all_goals first | (rename_i h0; cases h0; done) | skip
  · cases hx with | d _ _ hd => cases hd; exact ⟨none, _, _, rfl, rfl⟩
  · cases hx with | d _ _ hd => cases hd; exact ⟨_, _, _, rfl, rfl⟩
  · cases hx; exact ⟨_, _, _, rfl, rfl⟩
  · cases hx; exact ⟨_, _, _, rfl, rfl⟩
theorem sK {O : Nat → Nat → Prop} {x : V} {u : Value} {b : Bool} (h : ip 2 x = some b) (hx : aR μ O w x u) : (u = .nilFunc ∧ b = true) ∨ ∃ f c d, u = .func f c d ∧ b = false := by
  unfold ip at h
  split at h <;> cases h
  all_goals first | (rename_i h0; cases h0; done) | skip
  · cases hx with | d _ _ hd => cases hd; exact .inl ⟨rfl, rfl⟩
  · cases hx with | d _ _ hd => cases hd; exact .inr ⟨_, _, _, rfl, rfl⟩
  · cases hx; exact .inr ⟨_, _, _, rfl, rfl⟩
theorem xV {q : Nat} {x y : V} {r : Bool} (h : lQ q x y = some r) : ∃ b c, ip q x = some b ∧ ip q y = some c ∧ ((b = true ∧ r = c) ∨ (b = false ∧ c = true ∧ r = false)) := by
  unfold lQ at h
  split at h
  · rename_i b h1 h2; cases h; exact ⟨_, _, h1, h2, .inl ⟨rfl, rfl⟩⟩
  · rename_i h1 h2; cases h; exact ⟨_, _, h1, h2, .inr ⟨rfl, rfl, rfl⟩⟩
  · cases h
theorem xW {neg : Bool} {q : Nat} {x y : AX} {x' y' : Operand} {t t' : TypeId} {r : Bool} (ho : o.op = .binOp (if neg then .neq else .eql) t x' y' t') (hx : aR μ (aD A μ σ) w (e x) (a.eval x')) (hy : aR μ (aD A μ σ) w (e y) (a.eval y'))
    (hs : bm A μ σ w) (ht : (∃ z, P.underlying t = some (.pointer z) ∧ q = 0) ∨ (∃ z, P.underlying t = some (.slice z) ∧ q = 1) ∨ (∃ z z' z'', P.underlying t = some (.func z z' z'') ∧ q = 2))
    (hr : lQ q (e x) (e y) = some r) : bV P A μ σ w o a (.d (.bool (if neg then !r else r))) σ n n := by
  have key : (∃ u v, a.eval x' = u ∧ a.eval y' = v ∧ (u ≠ .nilIface ∧ ∀ c, u ≠ .agg c) ∧ ((∀ k i, u ≠ .int k i) ∧ (∀ s, u ≠ .string s) ∧ (∀ k b, u ≠ .float k b) ∧ (∀ k x y, u ≠ .complex k x y)) ∧
      ∀ d, (Op.equalIn (d + 1) t u v).run P w = .ok r w) := by
    refine ⟨_, _, rfl, rfl, ?_⟩
    generalize a.eval x' = u at hx
    generalize a.eval y' = v at hy
    obtain ⟨b, c, h1, h2, hbc⟩ := xV hr
    rcases ht with ⟨z, ht, rfl⟩ | ⟨z, ht, rfl⟩ | ⟨z, z', z'', ht, rfl⟩
    · obtain ⟨p, rfl, hp⟩ := sI h1 hx
      obtain ⟨p', rfl, hp'⟩ := sI h2 hy
      refine ⟨by simp, by simp, fun d => ?_⟩
      cases p <;> cases p' <;> simp at hp hp' <;> subst hp <;> subst hp' <;> simp at hbc <;> subst hbc <;> simp [Op.equalIn, run_underlying ht]
    · obtain ⟨p, m1, c1, rfl, hp⟩ := sJ h1 hx
      obtain ⟨p', m2, c2, rfl, hp'⟩ := sJ h2 hy
      refine ⟨by simp, by simp, fun d => ?_⟩
      cases p <;> cases p' <;> simp at hp hp' <;> subst hp <;> subst hp' <;> simp at hbc <;> subst hbc <;> simp [Op.equalIn, run_underlying ht]
    · rcases sK h1 hx with ⟨rfl, rfl⟩ | ⟨f1, f2, f3, rfl, rfl⟩ <;> rcases sK h2 hy with ⟨rfl, rfl⟩ | ⟨g1, g2, g3, rfl, rfl⟩ <;> simp at hbc <;> subst hbc <;> refine ⟨by simp, by simp, fun d => ?_⟩ <;> simp [Op.equalIn, run_underlying ht]
  obtain ⟨u, v, h1, h2, h3, h4, h5'⟩ := key
  have h5 := h5' 9999
  clear h5'
  rw [show 9999 + 1 = 10000 from rfl] at h5
  exact .val hs (cv := .bool (if neg then !r else r)) (by simp only [execOp, ho, h1, h2, Sem.run_bind, xU h3, Result.andThen_ok, pI (neg := neg) h4 h5, Sem.run_pure]) (.d _ _ (.bool _))
end
end Go.AM
end
