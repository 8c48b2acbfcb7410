import Derived.Test.YtfjelgjfbjjopaaAmOps3
import Derived.Laws.StructEq
set_option linter.unusedVariables false
set_option linter.unusedSectionVars false
set_option linter.unusedSimpArgs false
namespace Go.AM
open Go Go.RowKit
variable [Glob]
theorem ki : ∀ {k l : List Ck} {a c b d : List D}, a.length = k.length → c.length = k.length → bH (k ++ l) (a ++ b) (c ++ d) = match bH k a c with
    | some true => bH l b d
    | some false => some false
    | none => none
  | [], l, [], [], b, d, _, _ => rfl
  | q :: k, l, x :: a, y :: c, b, d, h, h' => by
    simp only [List.cons_append, bH]
    cases cV q x y with
    | none => rfl
    | some r => cases r with
      | true => exact ki (by simpa using h) (by simpa using h')
      | false => rfl
  | [], _, _ :: _, _, _, _, h, _ => by simp at h
  | [], _, _, _ :: _, _, _, _, h => by simp at h
  | _ :: _, _, [], _, _, _, h, _ => by simp at h
  | _ :: _, _, _, [], _, _, _, h => by simp at h
def di (P : Program) (t : TypeId) (us : List Value) (u : Value) : Prop :=
  match P.underlying t with
  | some (.struct _) | some (.array _ _) => u = .agg us.toArray
  | _ => us = [u]
section
variable {P : Program} {w : World} {own : Nat → Nat → Prop}
def c9 (own : Nat → Nat → Prop) (w : World) (ds : List D) (us : List Value) : Prop := ds.length = us.length ∧ ∀ (i : Nat) d v, ds[i]? = some d → us[i]? = some v → DRel own w d v
theorem c9.take {ds : List D} {us : List Value} (h : c9 own w ds us) (n : Nat) : c9 own w (ds.take n) (us.take n) :=
  ⟨by simp [h.1], fun i d v hd hv => by
    rw [List.getElem?_take] at hd hv
    split at hd
    · rename_i hi; rw [if_pos hi] at hv; exact h.2 i d v hd hv
    · cases hd⟩
theorem c9.drop {ds : List D} {us : List Value} (h : c9 own w ds us) (n : Nat) : c9 own w (ds.drop n) (us.drop n) :=
  ⟨by simp [h.1], fun i d v hd hv => by rw [List.getElem?_drop] at hd hv; exact h.2 _ d v hd hv⟩
theorem kl {d : Nat} {t : TypeId} (h : bK P d t = true) : 0 < P.cellsOf t ∧ ∃ i, P.info? t = some i := by
  cases d with
  | zero => simp [bK] at h
  | succ d =>
    unfold bK at h
    cases hu : P.underlying t with
    | none => simp [hu] at h
    | some u =>
      refine ⟨?_, lW hu⟩
      rw [hu] at h
      cases u <;> simp at h <;> omega
theorem mm {d : Nat} (ih : ∀ t, bK P d t = true → (cq P d t).length = P.cellsOf t) : ∀ (fs : List Field) (off : Nat), e7 P (bK P d) fs off = true →
    (fs.flatMap fun f => cq P d f.type).length + off = cY P fs off
  | [], off, _ => by simp [cY]
  | f :: fs, off, h => by
    simp only [e7, Bool.and_eq_true] at h
    have := mm ih fs _ h.2
    simp only [List.flatMap_cons, List.length_append, cY, ih f.type h.1.2]
    omega
theorem ft : ∀ (d : Nat) (t : TypeId), bK P d t = true → (cq P d t).length = P.cellsOf t
  | 0, _, h => by simp [bK] at h
  | d + 1, t, h => by
    unfold bK at h
    unfold cq
    cases hu : P.underlying t with
    | none => simp [hu] at h
    | some u =>
      rw [hu] at h
      cases u <;> simp at h
      · simp [h]
      · simp [h]
      · simp [h]
      · rw [h.2]; simp [ft d _ h.1.2]
      · have := mm (ft d) _ 0 h.1.2
        simp only; omega
theorem gB {d : Nat} {t : TypeId} (h : bK P d t = true) (us : List Value) (off : Nat) (hle : off + P.cellsOf t ≤ us.length) :
    ∃ v, (part t us.toArray off).run P w = .ok v w ∧ di P t ((us.drop off).take (P.cellsOf t)) v := by
  obtain ⟨h0, i, hi⟩ := kl h
  have hsz := fP (w := w) hi
  cases d with
  | zero => simp [bK] at h
  | succ d =>
    unfold bK at h
    unfold di
    cases hu : P.underlying t with
    | none => simp [hu] at h
    | some u =>
      rw [hu] at h
      have hr := bf (w := w) hu
      have hone : P.cellsOf t = 1 → (isAgg t).run P w = .ok false w → ∃ v, (part t us.toArray off).run P w = .ok v w ∧ (us.drop off).take (P.cellsOf t) = [v] := by
        intro h1 h2
        have hlt : off < us.length := by omega
        refine ⟨us[off], by simp [part, h2, hlt], ?_⟩
        rw [h1]
        apply List.ext_getElem?
        intro j
        rw [List.getElem?_take]
        cases j with
        | zero => simp [hlt]
        | succ j => simp
      have hagg : (isAgg t).run P w = .ok true w → ∃ v, (part t us.toArray off).run P w = .ok v w ∧ v = .agg ((us.drop off).take (P.cellsOf t)).toArray := by
        intro h2
        refine ⟨_, by simp [part, h2, hsz]; rfl, ?_⟩
        simp [List.extract_eq_take_drop]
      cases u <;> simp at h
      · exact hone h (by simp [isAgg, hr])
      · exact hone h (by simp [isAgg, hr])
      · exact hone h (by simp [isAgg, hr])
      · exact hagg (by simp [isAgg, hr])
      · exact hagg (by simp [isAgg, hr])
theorem mn {d dd : Nat} (ih : ∀ t, bK P d t = true → ∀ (xs ys : List D) (us vs : List Value) (u v : Value) (b : Bool), xs.length = P.cellsOf t → ys.length = P.cellsOf t → c9 own w xs us → c9 own w ys vs →
      di P t us u → di P t vs v → bH (cq P d t) xs ys = some b → (Op.equalIn dd t u v).run P w = .ok b w) (us vs : List Value) :
    ∀ (fs : List Field) (off : Nat) (xs ys : List D) (b : Bool), e7 P (bK P d) fs off = true → cY P fs off = us.length → us.length = vs.length → c9 own w xs (us.drop off) → c9 own w ys (vs.drop off) →
      bH (fs.flatMap fun f => cq P d f.type) xs ys = some b → (Op.eqFields dd us.toArray vs.toArray fs).run P w = .ok b w
  | [], off, xs, ys, b, _, he, hl, hx, hy, hb => by
    have e1 : xs = [] := List.eq_nil_of_length_eq_zero (by rw [hx.1]; simp [cY] at he; simp; omega)
    have e2 : ys = [] := List.eq_nil_of_length_eq_zero (by rw [hy.1]; simp [cY] at he; simp; omega)
    subst e1; subst e2
    simp [bH] at hb; subst hb
    simp [Op.eqFields]
  | f :: fs, off, xs, ys, b, hf, he, hl, hx, hy, hb => by
    simp only [e7, Bool.and_eq_true, bne_iff_ne, beq_iff_eq] at hf
    obtain ⟨⟨⟨hn, hoff⟩, hok⟩, hrest⟩ := hf
    simp only [cY] at he
    have hend : ∀ (fs : List Field) (o : Nat), o ≤ cY P fs o := by
      intro fs
      induction fs with
      | nil => intro o; simp [cY]
      | cons g gs ihg => intro o; simp only [cY]; have := ihg (o + P.cellsOf g.type); omega
    have hle : off + P.cellsOf f.type ≤ us.length := by have := hend fs (off + P.cellsOf f.type); omega
    obtain ⟨p, hp1, hp2⟩ := gB (w := w) hok us off hle
    obtain ⟨q, hq1, hq2⟩ := gB (w := w) hok vs off (by omega)
    have lx : xs.length = us.length - off := by rw [hx.1]; simp
    have ly : ys.length = vs.length - off := by rw [hy.1]; simp
    have hlen := ft d f.type hok
    have hsplit : bH ((f :: fs).flatMap fun f => cq P d f.type) xs ys = match bH (cq P d f.type) (xs.take (P.cellsOf f.type)) (ys.take (P.cellsOf f.type)) with
        | some true => bH (fs.flatMap fun f => cq P d f.type) (xs.drop (P.cellsOf f.type)) (ys.drop (P.cellsOf f.type))
        | some false => some false
        | none => none := by
      rw [List.flatMap_cons, ← ki (by simp; omega) (by simp; omega), List.take_append_drop, List.take_append_drop]
    rw [hb] at hsplit
    have hx2 := hx.take (P.cellsOf f.type)
    have hy2 := hy.take (P.cellsOf f.type)
    have hx3 := hx.drop (P.cellsOf f.type)
    have hy3 := hy.drop (P.cellsOf f.type)
    simp only [List.drop_drop] at hx3 hy3
    cases hr : bH (cq P d f.type) (xs.take (P.cellsOf f.type)) (ys.take (P.cellsOf f.type)) with
    | none => simp [hr] at hsplit
    | some r =>
      have h1 := ih f.type hok _ _ _ _ p q r (by simp; omega) (by simp; omega) hx2 hy2 hp2 hq2 hr
      cases r with
      | false =>
        simp [hr] at hsplit
        subst hsplit
        simp [Op.eqFields, hn, hoff, hp1, hq1, h1]
      | true =>
        simp [hr] at hsplit
        have h2 := mn ih us vs fs (off + P.cellsOf f.type) _ _ b hrest he hl hx3 hy3 hsplit.symm
        simp [Op.eqFields, hn, hoff, hp1, hq1, h1, h2]
def fQ (dd : Nat) (el : TypeId) (xs ys : Array Value) (n : Nat) : List Nat → Sem Bool
  | [] => pure true
  | i :: l => do
    let a ← part el xs (i * n)
    let b ← part el ys (i * n)
    let r ← Op.equalIn dd el a b
    if (!r) = true then pure false else fQ dd el xs ys n l
theorem pw (dd : Nat) (t el : TypeId) (m : Nat) (xs ys : Array Value) (i : TypeInfo) (ht : P.underlying t = some (.array m el)) (hi : P.info? el = some i) :
    (Op.equalIn (dd + 1) t (.agg xs) (.agg ys)).run P w = (fQ dd el xs ys (P.cellsOf el) (List.range m)).run P w := by
  simp only [Op.equalIn, Sem.run_bind, run_underlying ht, Result.andThen_ok, fP hi]
  simp only [Std.Legacy.Range.forIn_eq_forIn_range', Std.Legacy.Range.size]
  simp only [Nat.sub_zero, Nat.add_sub_cancel, Nat.div_one, ← List.range_eq_range']
  generalize List.range m = l
  clear ht
  induction l generalizing w with
  | nil => simp [fQ]
  | cons j l ih =>
    simp only [List.forIn_cons, fQ, Sem.run_bind]
    generalize (part el xs (j * P.cellsOf el)).run P w = r1
    cases r1 with
    | ok a w1 =>
      simp only [Result.andThen_ok]
      generalize (part el ys (j * P.cellsOf el)).run P w1 = r2
      cases r2 with
      | ok b w2 =>
        simp only [Result.andThen_ok]
        generalize (Op.equalIn dd el a b).run P w2 = r3
        cases r3 with
        | ok r w3 =>
          cases r
          · simp
          · simpa using ih (w := w3)
        | halt x w3 => simp [Result.andThen]
      | halt x w2 => simp [Result.andThen]
    | halt x w1 => simp [Result.andThen]
theorem mo {d dd : Nat} {el : TypeId} (hok : bK P d el = true)
    (ih : ∀ (xs ys : List D) (us vs : List Value) (u v : Value) (b : Bool), xs.length = P.cellsOf el → ys.length = P.cellsOf el → c9 own w xs us → c9 own w ys vs →
      di P el us u → di P el vs v → bH (cq P d el) xs ys = some b → (Op.equalIn dd el u v).run P w = .ok b w) (us vs : List Value) :
    ∀ (m j : Nat) (xs ys : List D) (b : Bool), us.length = (j + m) * P.cellsOf el → us.length = vs.length → c9 own w xs (us.drop (j * P.cellsOf el)) → c9 own w ys (vs.drop (j * P.cellsOf el)) →
      bH (List.replicate m (cq P d el)).flatten xs ys = some b → (fQ dd el us.toArray vs.toArray (P.cellsOf el) (List.range' j m)).run P w = .ok b w
  | 0, j, xs, ys, b, he, hl, hx, hy, hb => by
    have e1 : xs = [] := List.eq_nil_of_length_eq_zero (by rw [hx.1]; simp at he; simp; omega)
    have e2 : ys = [] := List.eq_nil_of_length_eq_zero (by rw [hy.1]; simp at he; simp; omega)
    subst e1; subst e2
    simp [bH] at hb; subst hb
    simp [fQ]
  | m + 1, j, xs, ys, b, he, hl, hx, hy, hb => by
    have hmul : (j + (m + 1)) * P.cellsOf el = j * P.cellsOf el + P.cellsOf el + m * P.cellsOf el := by
      rw [Nat.add_mul, Nat.add_mul]; omega
    have hle : j * P.cellsOf el + P.cellsOf el ≤ us.length := by omega
    obtain ⟨p, hp1, hp2⟩ := gB (w := w) hok us (j * P.cellsOf el) hle
    obtain ⟨q, hq1, hq2⟩ := gB (w := w) hok vs (j * P.cellsOf el) (by omega)
    have lx : xs.length = us.length - j * P.cellsOf el := by rw [hx.1]; simp
    have ly : ys.length = vs.length - j * P.cellsOf el := by rw [hy.1]; simp
    have hlen := ft d el hok
    have hsplit : bH (List.replicate (m + 1) (cq P d el)).flatten xs ys = match bH (cq P d el) (xs.take (P.cellsOf el)) (ys.take (P.cellsOf el)) with
        | some true => bH (List.replicate m (cq P d el)).flatten (xs.drop (P.cellsOf el)) (ys.drop (P.cellsOf el))
        | some false => some false
        | none => none := by
      rw [List.replicate_succ, List.flatten_cons, ← ki (by simp; omega) (by simp; omega), List.take_append_drop, List.take_append_drop]
    rw [hb] at hsplit
    have hx2 := hx.take (P.cellsOf el)
    have hy2 := hy.take (P.cellsOf el)
    have hx3 := hx.drop (P.cellsOf el)
    have hy3 := hy.drop (P.cellsOf el)
    simp only [List.drop_drop] at hx3 hy3
    rw [show j * P.cellsOf el + P.cellsOf el = (j + 1) * P.cellsOf el by rw [Nat.add_mul]; omega] at hx3 hy3
    simp only [List.range'_succ, fQ]
    cases hr : bH (cq P d el) (xs.take (P.cellsOf el)) (ys.take (P.cellsOf el)) with
    | none => simp [hr] at hsplit
    | some r =>
      have h1 := ih _ _ _ _ p q r (by simp; omega) (by simp; omega) hx2 hy2 hp2 hq2 hr
      cases r with
      | false =>
        simp [hr] at hsplit
        subst hsplit
        simp [hp1, hq1, h1]
      | true =>
        simp [hr] at hsplit
        have h2 := mo hok ih us vs m (j + 1) _ _ b (by rw [he]; congr 1; omega) hl hx3 hy3 hsplit.symm
        simp [hp1, hq1, h1, h2]
theorem px {k : Ck} {x y : D} {b : Bool} (h : bH [k] [x] [y] = some b) : cV k x y = some b := by
  simp only [bH] at h
  cases hc : cV k x y with
  | none => simp [hc] at h
  | some r => cases r <;> simp [hc] at h <;> subst h <;> rfl
theorem km {x y : D} {b : Bool} (h : cV .bool x y = some b) : ∃ p q, x = .bool p ∧ y = .bool q ∧ b = (p == q) := by
  cases x <;> cases y <;> simp [cV] at h
  exact ⟨_, _, rfl, rfl, h.symm⟩
theorem kn {x y : D} {b : Bool} (h : cV .int x y = some b) : ∃ k p q, x = .int k p ∧ y = .int k q ∧ b = (p == q) := by
  cases x <;> cases y <;> simp [cV] at h
  obtain ⟨rfl, h⟩ := h
  exact ⟨_, _, _, rfl, rfl, h.symm⟩
theorem ko {x y : D} {b : Bool} (h : cV .str x y = some b) : ∃ p q, x = .str p ∧ y = .str q ∧ b = (p.toList == q.toList) := by
  cases x <;> cases y <;> simp [cV] at h
  exact ⟨_, _, rfl, rfl, h.symm⟩
theorem jq : ∀ (d : Nat) (t : TypeId), bK P d t = true → ∀ (k : Nat) (xs ys : List D) (us vs : List Value) (u v : Value) (b : Bool), xs.length = P.cellsOf t → ys.length = P.cellsOf t →
    c9 own w xs us → c9 own w ys vs → di P t us u → di P t vs v → bH (cq P d t) xs ys = some b → (Op.equalIn (d + k) t u v).run P w = .ok b w
  | 0, t, h, _, _, _, _, _, _, _, _, _, _, _, _, _, _, _ => by simp [bK] at h
  | d + 1, t, h, k, xs, ys, us, vs, u, v, b, lx, ly, hx, hy, hu, hv, hb => by
    unfold bK at h
    unfold di at hu hv
    unfold cq at hb
    cases hty : P.underlying t with
    | none => simp [hty] at h
    | some ty =>
      rw [hty] at h hu hv hb
      have hone : ∀ q, P.cellsOf t = 1 → us = [u] → vs = [v] → bH [q] xs ys = some b → ∃ x y, cV q x y = some b ∧ DRel own w x u ∧ DRel own w y v := by
        intro q h1 hu hv hb
        subst hu; subst hv
        match xs, lx.trans h1, ys, ly.trans h1 with
        | [x], _, [y], _ => exact ⟨x, y, px hb, hx.2 0 x u (by simp) (by simp), hy.2 0 y v (by simp) (by simp)⟩
      rw [show d + 1 + k = (d + k) + 1 by omega]
      cases ty <;> simp at h
      · obtain ⟨x, y, hc, hxu, hyv⟩ := hone .bool h hu hv hb
        obtain ⟨p, q, rfl, rfl, rfl⟩ := km hc
        cases hxu; cases hyv; exact run_equalIn_bool' w _ t _ _ hty
      · obtain ⟨x, y, hc, hxu, hyv⟩ := hone .int h hu hv hb
        obtain ⟨k', p, q, rfl, rfl, rfl⟩ := kn hc
        cases hxu; cases hyv; exact run_equalIn_int w _ t k' _ _ _ hty
      · obtain ⟨x, y, hc, hxu, hyv⟩ := hone .str h hu hv hb
        obtain ⟨p, q, rfl, rfl, rfl⟩ := ko hc
        cases hxu; cases hyv; exact run_equalIn_string w _ t _ _ hty
      · rename_i m el
        simp only at hu hv hb
        subst hu; subst hv
        obtain ⟨_, i, hi⟩ := kl h.1.2
        rw [pw _ t el m _ _ i hty hi, List.range_eq_range']
        have l1 : us.length = P.cellsOf t := by rw [← hx.1]; exact lx
        have l2 : vs.length = P.cellsOf t := by rw [← hy.1]; exact ly
        exact mo h.1.2 (fun xs ys us vs u v b a1 a2 a3 a4 a5 a6 a7 => jq d el h.1.2 k xs ys us vs u v b a1 a2 a3 a4 a5 a6 a7) us vs m 0 xs ys b (by rw [l1, h.2]; simp) (by omega) (by simpa using hx) (by simpa using hy) hb
      · rename_i fs
        simp only at hu hv hb
        subst hu; subst hv
        have l1 : us.length = P.cellsOf t := by rw [← hx.1]; exact lx
        have l2 : vs.length = P.cellsOf t := by rw [← hy.1]; exact ly
        have hfs : P.fieldsOf t = fs := by simp [Program.fieldsOf, hty]
        rw [run_equalIn_struct w _ t _ _ (by rw [hfs]; exact hty) h.1.1.1, hfs]
        exact mn (fun t ht xs ys us vs u v b a1 a2 a3 a4 a5 a6 a7 => jq d t ht k xs ys us vs u v b a1 a2 a3 a4 a5 a6 a7) us vs fs.toList 0 xs ys b h.1.2 (by rw [l1]; exact h.2) (by omega) (by simpa using hx) (by simpa using hy) hb
end
end Go.AM
