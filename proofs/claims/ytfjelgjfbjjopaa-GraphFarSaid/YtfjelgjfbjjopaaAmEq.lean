import Derived.Test.YtfjelgjfbjjopaaAmOps3
import Derived.Laws.StructEq
set_option linter.unusedVariables false
set_option linter.unusedSectionVars false
set_option linter.unusedSimpArgs false
namespace Go.AM
open Go Go.RowKit
variable [Glob]
theorem kP : ∀ {k l : List Ck} {a c b d : List D}, a.length = k.length → c.length = k.length → bP (k ++ l) (a ++ b) (c ++ d) = match bP k a c with
    | some true => bP l b d
    | some false => some false
    | none => none
  | [], l, [], [], b, d, _, _ => rfl
  | q :: k, l, x :: a, y :: c, b, d, h, h' => by
    simp only [List.cons_append, bP]
    cases c9 q x y with
    | none => rfl
    | some r => cases r with
      | true => exact kP (by simpa using h) (by simpa using h')
      | false => rfl
  | [], _, _ :: _, _, _, _, h, _ => by simp at h
  | [], _, _, _ :: _, _, _, _, h => by simp at h
  | _ :: _, _, [], _, _, _, h, _ => by simp at h
  | _ :: _, _, _, [], _, _, _, h => by simp at h
def dC (P : Program) (t : TypeId) (us : List Value) (u : Value) : Prop :=
  match P.underlying t with
  | some (.struct _) | some (.array _ _) => u = .agg us.toArray
  | _ => us = [u]
section
variable {P : Program} {w : World} {own : Nat → Nat → Prop}
def dl (own : Nat → Nat → Prop) (w : World) (ds : List D) (us : List Value) : Prop := ds.length = us.length ∧ ∀ (i : Nat) d v, ds[i]? = some d → us[i]? = some v → DRel own w d v
theorem dl.take {ds : List D} {us : List Value} (h : dl own w ds us) (n : Nat) : dl own w (ds.take n) (us.take n) :=
  ⟨by simp [h.1], fun i d v hd hv => by
    rw [List.getElem?_take] at hd hv
    split at hd
    · rename_i hi; rw [if_pos hi] at hv; exact h.2 i d v hd hv
    · cases hd⟩
theorem dl.drop {ds : List D} {us : List Value} (h : dl own w ds us) (n : Nat) : dl own w (ds.drop n) (us.drop n) :=
  ⟨by simp [h.1], fun i d v hd hv => by rw [List.getElem?_drop] at hd hv; exact h.2 _ d v hd hv⟩
theorem kQ {d : Nat} {t : TypeId} (h : bR P d t = true) : 0 < P.cellsOf t ∧ ∃ i, P.info? t = some i := by
  cases d with
  | zero => simp [bR] at h
  | succ d =>
    unfold bR at h
    cases hu : P.underlying t with
    | none => simp [hu] at h
    | some u =>
      refine ⟨?_, mN hu⟩
      rw [hu] at h
      cases u <;> simp at h <;> omega
theorem m6 {d : Nat} (ih : ∀ t, bR P d t = true → (cx P d t).length = P.cellsOf t) : ∀ (fs : List Field) (off : Nat), fo P (bR P d) fs off = true →
    (fs.flatMap fun f => cx P d f.type).length + off = da P fs off
  | [], off, _ => by simp [da]
  | f :: fs, off, h => by
    simp only [fo, Bool.and_eq_true] at h
    have := m6 ih fs _ h.2
    simp only [List.flatMap_cons, List.length_append, da, ih f.type h.1.2]
    omega
theorem fH : ∀ (d : Nat) (t : TypeId), bR P d t = true → (cx P d t).length = P.cellsOf t
  | 0, _, h => by simp [bR] at h
  | d + 1, t, h => by
    unfold bR at h
    unfold cx
    cases hu : P.underlying t with
    | none => simp [hu] at h
    | some u =>
      rw [hu] at h
      cases u <;> simp at h
      · simp [h]
      · simp [h]
      · simp [h]
      · rw [h.2]; simp [fH d _ h.1.2]
      · have := m6 (fH d) _ 0 h.1.2
        simp only; omega
theorem gT {d : Nat} {t : TypeId} (h : bR P d t = true) (us : List Value) (off : Nat) (hle : off + P.cellsOf t ≤ us.length) :
    ∃ v, (part t us.toArray off).run P w = .ok v w ∧ dC P t ((us.drop off).take (P.cellsOf t)) v := by
  obtain ⟨h0, i, hi⟩ := kQ h
  have hsz := gm (w := w) hi
  cases d with
  | zero => simp [bR] at h
  | succ d =>
    unfold bR at h
    unfold dC
    cases hu : P.underlying t with
    | none => simp [hu] at h
    | some u =>
      rw [hu] at h
      have hr := bb (w := w) hu
      have hone : P.cellsOf t = 1 → (isAgg t).run P w = .ok false w → ∃ v, (part t us.toArray off).run P w = .ok v w ∧ (us.drop off).take (P.cellsOf t) = [v] := by
        intro h1 h2
        have hlt : off < us.length := by omega
        refine ⟨us[off], by simp [part, h2, hlt], ?_⟩
        rw [h1]
        apply List.ext_getElem?
        intro j
        rw [List.getElem?_take]
        cases j with
        | zero => simp [hlt]
        | succ j => simp
      have hagg : (isAgg t).run P w = .ok true w → ∃ v, (part t us.toArray off).run P w = .ok v w ∧ v = .agg ((us.drop off).take (P.cellsOf t)).toArray := by
        intro h2
        refine ⟨_, by simp [part, h2, hsz]; rfl, ?_⟩
        simp [List.extract_eq_take_drop]
      cases u <;> simp at h
      · exact hone h (by simp [isAgg, hr])
      · exact hone h (by simp [isAgg, hr])
      · exact hone h (by simp [isAgg, hr])
      · exact hagg (by simp [isAgg, hr])
      · exact hagg (by simp [isAgg, hr])
theorem m7 {d dd : Nat} (ih : ∀ t, bR P d t = true → ∀ (xs ys : List D) (us vs : List Value) (u v : Value) (b : Bool), xs.length = P.cellsOf t → ys.length = P.cellsOf t → dl own w xs us → dl own w ys vs →
      dC P t us u → dC P t vs v → bP (cx P d t) xs ys = some b → (Op.equalIn dd t u v).run P w = .ok b w) (us vs : List Value) :
    ∀ (fs : List Field) (off : Nat) (xs ys : List D) (b : Bool), fo P (bR P d) fs off = true → da P fs off = us.length → us.length = vs.length → dl own w xs (us.drop off) → dl own w ys (vs.drop off) →
      bP (fs.flatMap fun f => cx P d f.type) xs ys = some b → (Op.eqFields dd us.toArray vs.toArray fs).run P w = .ok b w
  | [], off, xs, ys, b, _, he, hl, hx, hy, hb => by
    have e1 : xs = [] := List.eq_nil_of_length_eq_zero (by rw [hx.1]; simp [da] at he; simp; omega)
    have e2 : ys = [] := List.eq_nil_of_length_eq_zero (by rw [hy.1]; simp [da] at he; simp; omega)
    subst e1; subst e2
    simp [bP] at hb; subst hb
    simp [Op.eqFields]
  | f :: fs, off, xs, ys, b, hf, he, hl, hx, hy, hb => by
    simp only [fo, Bool.and_eq_true, bne_iff_ne, beq_iff_eq] at hf
    obtain ⟨⟨⟨hn, hoff⟩, hok⟩, hrest⟩ := hf
    simp only [da] at he
    have hend : ∀ (fs : List Field) (o : Nat), o ≤ da P fs o := by
      intro fs
      induction fs with
      | nil => intro o; simp [da]
      | cons g gs ihg => intro o; simp only [da]; have := ihg (o + P.cellsOf g.type); omega
    have hle : off + P.cellsOf f.type ≤ us.length := by have := hend fs (off + P.cellsOf f.type); omega
    obtain ⟨p, hp1, hp2⟩ := gT (w := w) hok us off hle
    obtain ⟨q, hq1, hq2⟩ := gT (w := w) hok vs off (by omega)
    have lx : xs.length = us.length - off := by rw [hx.1]; simp
    have ly : ys.length = vs.length - off := by rw [hy.1]; simp
    have hlen := fH d f.type hok
    have hsplit : bP ((f :: fs).flatMap fun f => cx P d f.type) xs ys = match bP (cx P d f.type) (xs.take (P.cellsOf f.type)) (ys.take (P.cellsOf f.type)) with
        | some true => bP (fs.flatMap fun f => cx P d f.type) (xs.drop (P.cellsOf f.type)) (ys.drop (P.cellsOf f.type))
        | some false => some false
        | none => none := by
      rw [List.flatMap_cons, ← kP (by simp; omega) (by simp; omega), List.take_append_drop, List.take_append_drop]
    rw [hb] at hsplit
    have hx2 := hx.take (P.cellsOf f.type)
    have hy2 := hy.take (P.cellsOf f.type)
    have hx3 := hx.drop (P.cellsOf f.type)
    have hy3 := hy.drop (P.cellsOf f.type)
    simp only [List.drop_drop] at hx3 hy3
    cases hr : bP (cx P d f.type) (xs.take (P.cellsOf f.type)) (ys.take (P.cellsOf f.type)) with
    | none => simp [hr] at hsplit
    | some r =>
      have h1 := ih f.type hok _ _ _ _ p q r (by simp; omega) (by simp; omega) hx2 hy2 hp2 hq2 hr
      cases r with
      | false =>
        simp [hr] at hsplit
        subst hsplit
        simp [Op.eqFields, hn, hoff, hp1, hq1, h1]
      | true =>
        simp [hr] at hsplit
        have h2 := m7 ih us vs fs (off + P.cellsOf f.type) _ _ b hrest he hl hx3 hy3 hsplit.symm
        simp [Op.eqFields, hn, hoff, hp1, hq1, h1, h2]
def gr (dd : Nat) (el : TypeId) (xs ys : Array Value) (n : Nat) : List Nat → Sem Bool
  | [] => pure true
  | i :: l => do
    let a ← part el xs (i * n)
    let b ← part el ys (i * n)
    let r ← Op.equalIn dd el a b
    if (!r) = true then pure false else gr dd el xs ys n l
theorem pQ (dd : Nat) (t el : TypeId) (m : Nat) (xs ys : Array Value) (i : TypeInfo) (ht : P.underlying t = some (.array m el)) (hi : P.info? el = some i) :
    (Op.equalIn (dd + 1) t (.agg xs) (.agg ys)).run P w = (gr dd el xs ys (P.cellsOf el) (List.range m)).run P w := by
  simp only [Op.equalIn, Sem.run_bind, run_underlying ht, Result.andThen_ok, gm hi]
  simp only [Std.Legacy.Range.forIn_eq_forIn_range', Std.Legacy.Range.size]
  simp only [Nat.sub_zero, Nat.add_sub_cancel, Nat.div_one, ← List.range_eq_range']
  generalize List.range m = l
  clear ht
  induction l generalizing w with
  | nil => simp [gr]
  | cons j l ih =>
    simp only [List.forIn_cons, gr, Sem.run_bind]
    generalize (part el xs (j * P.cellsOf el)).run P w = r1
    cases r1 with
    | ok a w1 =>
      simp only [Result.andThen_ok]
      generalize (part el ys (j * P.cellsOf el)).run P w1 = r2
      cases r2 with
      | ok b w2 =>
        simp only [Result.andThen_ok]
        generalize (Op.equalIn dd el a b).run P w2 = r3
        cases r3 with
        | ok r w3 =>
          cases r
          · simp
          · simpa using ih (w := w3)
        | halt x w3 => simp [Result.andThen]
      | halt x w2 => simp [Result.andThen]
    | halt x w1 => simp [Result.andThen]
theorem m8 {d dd : Nat} {el : TypeId} (hok : bR P d el = true)
    (ih : ∀ (xs ys : List D) (us vs : List Value) (u v : Value) (b : Bool), xs.length = P.cellsOf el → ys.length = P.cellsOf el → dl own w xs us → dl own w ys vs →
      dC P el us u → dC P el vs v → bP (cx P d el) xs ys = some b → (Op.equalIn dd el u v).run P w = .ok b w) (us vs : List Value) :
    ∀ (m j : Nat) (xs ys : List D) (b : Bool), us.length = (j + m) * P.cellsOf el → us.length = vs.length → dl own w xs (us.drop (j * P.cellsOf el)) → dl own w ys (vs.drop (j * P.cellsOf el)) →
      bP (List.replicate m (cx P d el)).flatten xs ys = some b → (gr dd el us.toArray vs.toArray (P.cellsOf el) (List.range' j m)).run P w = .ok b w
  | 0, j, xs, ys, b, he, hl, hx, hy, hb => by
    have e1 : xs = [] := List.eq_nil_of_length_eq_zero (by rw [hx.1]; simp at he; simp; omega)
    have e2 : ys = [] := List.eq_nil_of_length_eq_zero (by rw [hy.1]; simp at he; simp; omega)
    subst e1; subst e2
    simp [bP] at hb; subst hb
    simp [gr]
  | m + 1, j, xs, ys, b, he, hl, hx, hy, hb => by
    have hmul : (j + (m + 1)) * P.cellsOf el = j * P.cellsOf el + P.cellsOf el + m * P.cellsOf el := by
      rw [Nat.add_mul, Nat.add_mul]; omega
    have hle : j * P.cellsOf el + P.cellsOf el ≤ us.length := by omega
    obtain ⟨p, hp1, hp2⟩ := gT (w := w) hok us (j * P.cellsOf el) hle
    obtain ⟨q, hq1, hq2⟩ := gT (w := w) hok vs (j * P.cellsOf el) (by omega)
    have lx : xs.length = us.length - j * P.cellsOf el := by rw [hx.1]; simp
    have ly : ys.length = vs.length - j * P.cellsOf el := by rw [hy.1]; simp
    have hlen := fH d el hok
    have hsplit : bP (List.replicate (m + 1) (cx P d el)).flatten xs ys = match bP (cx P d el) (xs.take (P.cellsOf el)) (ys.take (P.cellsOf el)) with
        | some true => bP (List.replicate m (cx P d el)).flatten (xs.drop (P.cellsOf el)) (ys.drop (P.cellsOf el))
        | some false => some false
        | none => none := by
      rw [List.replicate_succ, List.flatten_cons, ← kP (by simp; omega) (by simp; omega), List.take_append_drop, List.take_append_drop]
    rw [hb] at hsplit
    have hx2 := hx.take (P.cellsOf el)
    have hy2 := hy.take (P.cellsOf el)
    have hx3 := hx.drop (P.cellsOf el)
    have hy3 := hy.drop (P.cellsOf el)
    simp only [List.drop_drop] at hx3 hy3
    rw [show j * P.cellsOf el + P.cellsOf el = (j + 1) * P.cellsOf el by rw [Nat.add_mul]; omega] at hx3 hy3
    simp only [List.range'_succ, gr]
    cases hr : bP (cx P d el) (xs.take (P.cellsOf el)) (ys.take (P.cellsOf el)) with
    | none => simp [hr] at hsplit
    | some r =>
      have h1 := ih _ _ _ _ p q r (by simp; omega) (by simp; omega) hx2 hy2 hp2 hq2 hr
      cases r with
      | false =>
        simp [hr] at hsplit
        subst hsplit
        simp [hp1, hq1, h1]
      | true =>
        simp [hr] at hsplit
        have h2 := m8 hok ih us vs m (j + 1) _ _ b (by rw [he]; congr 1; omega) hl hx3 hy3 hsplit.symm
        simp [hp1, hq1, h1, h2]
theorem pR {k : Ck} {x y : D} {b : Bool} (h : bP [k] [x] [y] = some b) : c9 k x y = some b := by
  simp only [bP] at h
  cases hc : c9 k x y with
  | none => simp [hc] at h
  | some r => cases r <;> simp [hc] at h <;> subst h <;> rfl
theorem kR {x y : D} {b : Bool} (h : c9 .bool x y = some b) : ∃ p q, x = .bool p ∧ y = .bool q ∧ b = (p == q) := by
  cases x <;> cases y <;> simp [c9] at h
  exact ⟨_, _, rfl, rfl, h.symm⟩
theorem kS {x y : D} {b : Bool} (h : c9 .int x y = some b) : ∃ k p q, x = .int k p ∧ y = .int k q ∧ b = (p == q) := by
  cases x <;> cases y <;> simp [c9] at h
  obtain ⟨rfl, h⟩ := h
  exact ⟨_, _, _, rfl, rfl, h.symm⟩
theorem kT {x y : D} {b : Bool} (h : c9 .str x y = some b) : ∃ p q, x = .str p ∧ y = .str q ∧ b = (p.toList == q.toList) := by
  cases x <;> cases y <;> simp [c9] at h
  exact ⟨_, _, rfl, rfl, h.symm⟩
theorem jN : ∀ (d : Nat) (t : TypeId), bR P d t = true → ∀ (k : Nat) (xs ys : List D) (us vs : List Value) (u v : Value) (b : Bool), xs.length = P.cellsOf t → ys.length = P.cellsOf t →
    dl own w xs us → dl own w ys vs → dC P t us u → dC P t vs v → bP (cx P d t) xs ys = some b → (Op.equalIn (d + k) t u v).run P w = .ok b w
  | 0, t, h, _, _, _, _, _, _, _, _, _, _, _, _, _, _, _ => by simp [bR] at h
  | d + 1, t, h, k, xs, ys, us, vs, u, v, b, lx, ly, hx, hy, hu, hv, hb => by
    unfold bR at h
    unfold dC at hu hv
    unfold cx at hb
    cases hty : P.underlying t with
    | none => simp [hty] at h
    | some ty =>
      rw [hty] at h hu hv hb
      have hone : ∀ q, P.cellsOf t = 1 → us = [u] → vs = [v] → bP [q] xs ys = some b → ∃ x y, c9 q x y = some b ∧ DRel own w x u ∧ DRel own w y v := by
        intro q h1 hu hv hb
        subst hu; subst hv
        match xs, lx.trans h1, ys, ly.trans h1 with
        | [x], _, [y], _ => exact ⟨x, y, pR hb, hx.2 0 x u (by simp) (by simp), hy.2 0 y v (by simp) (by simp)⟩
      rw [show d + 1 + k = (d + k) + 1 by omega]
      cases ty <;> simp at h
      · obtain ⟨x, y, hc, hxu, hyv⟩ := hone .bool h hu hv hb
        obtain ⟨p, q, rfl, rfl, rfl⟩ := kR hc
        cases hxu; cases hyv; exact run_equalIn_bool' w _ t _ _ hty
      · obtain ⟨x, y, hc, hxu, hyv⟩ := hone .int h hu hv hb
        obtain ⟨k', p, q, rfl, rfl, rfl⟩ := kS hc
        cases hxu; cases hyv; exact run_equalIn_int w _ t k' _ _ _ hty
      · obtain ⟨x, y, hc, hxu, hyv⟩ := hone .str h hu hv hb
        obtain ⟨p, q, rfl, rfl, rfl⟩ := kT hc
        cases hxu; cases hyv; exact run_equalIn_string w _ t _ _ hty
      · rename_i m el
        simp only at hu hv hb
        subst hu; subst hv
        obtain ⟨_, i, hi⟩ := kQ h.1.2
        rw [pQ _ t el m _ _ i hty hi, List.range_eq_range']
        have l1 : us.length = P.cellsOf t := by rw [← hx.1]; exact lx
        have l2 : vs.length = P.cellsOf t := by rw [← hy.1]; exact ly
        exact m8 h.1.2 (fun xs ys us vs u v b a1 a2 a3 a4 a5 a6 a7 => jN d el h.1.2 k xs ys us vs u v b a1 a2 a3 a4 a5 a6 a7) us vs m 0 xs ys b (by rw [l1, h.2]; simp) (by omega) (by simpa using hx) (by simpa using hy) hb
      · rename_i fs
        simp only at hu hv hb
        subst hu; subst hv
        have l1 : us.length = P.cellsOf t := by rw [← hx.1]; exact lx
        have l2 : vs.length = P.cellsOf t := by rw [← hy.1]; exact ly
        have hfs : P.fieldsOf t = fs := by simp [Program.fieldsOf, hty]
        rw [run_equalIn_struct w _ t _ _ (by rw [hfs]; exact hty) h.1.1.1, hfs]
        exact m7 (fun t ht xs ys us vs u v b a1 a2 a3 a4 a5 a6 a7 => jN d t ht k xs ys us vs u v b a1 a2 a3 a4 a5 a6 a7) us vs fs.toList 0 xs ys b h.1.2 (by rw [l1]; exact h.2) (by omega) (by simpa using hx) (by simpa using hy) hb
end
end Go.AM
