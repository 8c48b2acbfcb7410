import Derived.Test.YtkgegocfjalcbaaTT7
/-
  What a policy means; what the document's run of it comes to.
-/
set_option linter.unusedVariables false
set_option linter.unusedSimpArgs false
namespace Go.AM
open Go

def pkw (q : Pk) (f n : Int) : Pk := (q.put f n).getD q

mutual
def den (st : List Int) : api_Pol → Pk → Pk → Prop
  | ⟨o, f, n, l⟩ => fun q x =>
    if o = 0 then False
    else if o = 1 then x = q
    else if o = 2 then x = q ∧ q.get f = some n
    else if o = 3 then x = q ∧ gat st f = some n
    else if o = 4 then x = q ∧ ∀ y, ¬ denS st l q y
    else if o = 5 then x = pkw q f n
    else if o = 6 then denQ st l q x
    else denS st l q x
def denQ (st : List Int) : List api_Pol → Pk → Pk → Prop
  | [] => fun q x => x = q
  | k :: l => fun q x => ∃ y, den st k q y ∧ denQ st l y x
def denS (st : List Int) : List api_Pol → Pk → Pk → Prop
  | [] => fun _ _ => False
  | k :: l => fun q x => den st k q x ∨ denS st l q x
end

theorem den_eq (st : List Int) (p : api_Pol) (q x : Pk) : den st p q x =
    if p.Op = 0 then False
    else if p.Op = 1 then x = q
    else if p.Op = 2 then x = q ∧ q.get p.F = some p.N
    else if p.Op = 3 then x = q ∧ gat st p.F = some p.N
    else if p.Op = 4 then x = q ∧ ∀ y, ¬ denS st p.Kids q y
    else if p.Op = 5 then x = pkw q p.F p.N
    else if p.Op = 6 then denQ st p.Kids q x
    else denS st p.Kids q x := by cases p; rw [den]

theorem denS_ex {st : List Int} : ∀ {l : List api_Pol} {q x : Pk}, denS st l q x ↔ ∃ k ∈ l, den st k q x
  | [], q, x => by simp [denS]
  | k :: l, q, x => by simp only [denS]; rw [denS_ex]; simp

theorem denQ_app {st : List Int} : ∀ {l m : List api_Pol} {q x : Pk}, denQ st (l ++ m) q x ↔ ∃ y, denQ st l q y ∧ denQ st m y x
  | [], m, q, x => by simp [denQ]
  | k :: l, m, q, x => by
    simp only [List.cons_append, denQ]
    constructor
    · rintro ⟨y, h1, h2⟩
      obtain ⟨z, h3, h4⟩ := denQ_app.1 h2
      exact ⟨z, ⟨y, h1, h3⟩, h4⟩
    · rintro ⟨z, ⟨y, h1, h3⟩, h4⟩
      exact ⟨y, h1, denQ_app.2 ⟨z, h3, h4⟩⟩

theorem denQ_one {st : List Int} {k : api_Pol} {q x : Pk} : denQ st [k] q x ↔ den st k q x := by
  simp only [denQ]
  constructor
  · rintro ⟨y, h, rfl⟩; exact h
  · intro h; exact ⟨x, h, rfl⟩

theorem eight {f : Int} (h0 : 0 ≤ f) (h1 : f < 8) : f = 0 ∨ f = 1 ∨ f = 2 ∨ f = 3 ∨ f = 4 ∨ f = 5 ∨ f = 6 ∨ f = 7 := by omega

theorem put_ok (q : Pk) {f : Int} (n : Int) (h0 : 0 ≤ f) (h1 : f < 8) : q.put f n = some (pkw q f n) ∧ (pkw q f n).get f = some n ∧ (∃ v, q.get f = some v) ∧ (q.get f = some n → pkw q f n = q) ∧ ∀ m, pkw (pkw q f n) f m = pkw q f m := by
  obtain ⟨a0, a1, a2, a3, a4, a5, a6, a7⟩ := q
  rcases eight h0 h1 with rfl | rfl | rfl | rfl | rfl | rfl | rfl | rfl <;>
    exact ⟨rfl, rfl, ⟨_, rfl⟩, fun h => by cases h; rfl, fun m => rfl⟩

theorem form_test {p : api_Pol} (h : pform 4 p = true) (ho : p.Op = 2) : 0 ≤ p.F ∧ p.F < 8 := by
  rw [pform_eq, ho] at h
  simp at h
  omega
theorem form_put5 {p : api_Pol} (h : pform 4 p = true) (ho : p.Op = 5) : 0 ≤ p.F ∧ p.F < 8 := by
  rw [pform_eq, ho] at h
  simp at h
  omega
theorem form_state {p : api_Pol} (h : pform 4 p = true) (ho : p.Op = 3) : 0 ≤ p.F := by
  rw [pform_eq, ho] at h
  simp at h
  omega

theorem s_with (q : Pk) {f : Int} (n : Int) (h0 : 0 ≤ f) (h1 : f < 8) : ref01_With q f n = some (pkw q f n) := by
  obtain ⟨e1, _, ⟨v, e2⟩, _⟩ := put_ok q n h0 h1
  unfold ref01_With
  rw [show decide (f ≥ 0) = true from decide_eq_true h0, show decide (f < 8) = true from decide_eq_true h1]
  simp [e1, e2]

def RunOk (st : List Int) (p : api_Pol) (q : Pk) (o : Option (List Pk × Bool)) : Prop := ∃ l b, o = some (l, b) ∧ l.length ≤ 64 ∧ (b = true → Srt l ∧ ∀ x, x ∈ l ↔ den st p q x)

theorem srt1 (q : Pk) : Srt [q] := by simp [Srt]
theorem srt0 : Srt [] := by simp [Srt]

theorem run_f (st : List Int) : ∀ k p, pdepth p ≤ k → pform 4 p = true → ∀ q, RunOk st p q (ref07_run_f k p st q)
  | 0, p, h, _, _ => by have := pdepth_pos p; omega
  | k + 1, p, h, hf, q => by
    show RunOk st p q (ref07_run_s (ref07_run_f k) p st q)
    have hp := pdepth_eq p
    have hop := form_op hf
    unfold ref07_run_s
    have hkid : (∀ x ∈ p.Kids, pform 4 x = true) → ∀ x ∈ p.Kids, ∀ q, RunOk st x q (ref07_run_f k x st q) := fun hk x hx q => run_f st k x (by have := pdepthL_mem hx; omega) (hk x hx) q
    by_cases h0 : p.Op = 0
    · rw [show (p.Op == 0) = true by simpa using h0, if_pos rfl]
      exact ⟨[], true, rfl, by simp, fun _ => ⟨srt0, fun x => by rw [den_eq, if_pos h0]; simp⟩⟩
    rw [show (p.Op == 0) = false by simpa using h0, if_neg (by simp)]
    by_cases h1 : p.Op = 1
    · rw [show (p.Op == 1) = true by simpa using h1, if_pos rfl]
      exact ⟨[q], true, rfl, by simp, fun _ => ⟨srt1 q, fun x => by rw [den_eq, if_neg h0, if_pos h1]; simp⟩⟩
    rw [show (p.Op == 1) = false by simpa using h1, if_neg (by simp)]
    by_cases h2 : p.Op = 2
    · rw [show (p.Op == 2) = true by simpa using h2, if_pos rfl]
      obtain ⟨f0, f1⟩ := form_test hf h2
      obtain ⟨_, _, ⟨v, e2⟩, _⟩ := put_ok q 0 f0 f1
      rw [e2, Option.bind_some]
      have hd : ∀ x, den st p q x ↔ x = q ∧ v = p.N := fun x => by rw [den_eq, if_neg h0, if_neg h1, if_pos h2, e2]; simp
      by_cases c : v = p.N
      · rw [show (v == p.N) = true by simpa using c, if_pos rfl]
        exact ⟨[q], true, rfl, by simp, fun _ => ⟨srt1 q, fun x => by rw [hd]; simp [c]⟩⟩
      · rw [show (v == p.N) = false by simpa using c, if_neg (by simp)]
        exact ⟨[], true, rfl, by simp, fun _ => ⟨srt0, fun x => by rw [hd]; simp [c]⟩⟩
    rw [show (p.Op == 2) = false by simpa using h2, if_neg (by simp)]
    by_cases h3 : p.Op = 3
    · rw [show (p.Op == 3) = true by simpa using h3, if_pos rfl]
      have f0 := form_state hf h3
      have hd : ∀ x, den st p q x ↔ x = q ∧ gat st p.F = some p.N := fun x => by rw [den_eq, if_neg h0, if_neg h1, if_neg h2, if_pos h3]
      by_cases c : p.F < (st.length : Int)
      · obtain ⟨m, hm⟩ : ∃ m : Nat, p.F = m := ⟨p.F.toNat, by omega⟩
        have hg : ∃ v, gat st p.F = some v := ⟨st[m]'(by omega), by rw [hm, gat_nat, List.getElem?_eq_getElem (by omega)]⟩
        obtain ⟨v, hv⟩ := hg
        rw [decide_eq_true c, if_pos rfl, hv]
        simp only [Option.bind_some]
        by_cases c2 : v = p.N
        · rw [show (v == p.N) = true by simpa using c2, if_pos rfl]
          exact ⟨[q], true, rfl, by simp, fun _ => ⟨srt1 q, fun x => by rw [hd, hv]; simp [c2]⟩⟩
        · rw [show (v == p.N) = false by simpa using c2, if_neg (by simp)]
          exact ⟨[], true, rfl, by simp, fun _ => ⟨srt0, fun x => by rw [hd, hv]; simp [c2]⟩⟩
      · rw [decide_eq_false c, if_neg (by simp)]
        have hv : gat st p.F = none := by
          unfold gat; rw [if_pos f0]; exact List.getElem?_eq_none (by omega)
        exact ⟨[], true, rfl, by simp, fun _ => ⟨srt0, fun x => by rw [hd, hv]; simp⟩⟩
    rw [show (p.Op == 3) = false by simpa using h3, if_neg (by simp)]
    by_cases h4 : p.Op = 4
    · rw [show (p.Op == 4) = true by simpa using h4, if_pos rfl]
      obtain ⟨y, rfl, _, hy⟩ := form_not hf h4
      obtain ⟨l, b, e, hl, hb⟩ := hkid (by simp [hy]) y (by simp) q
      rw [show gat [y] 0 = some y from rfl, Option.bind_some, e]
      simp only [Option.bind_some]
      have hd : ∀ x, den st ⟨4, 0, 0, [y]⟩ q x ↔ x = q ∧ ∀ z, ¬ den st y q z := fun x => by
        rw [den_eq]
        simp only [if_neg (show ¬ (4 : Int) = 0 by decide), if_neg (show ¬ (4 : Int) = 1 by decide), if_neg (show ¬ (4 : Int) = 2 by decide), if_neg (show ¬ (4 : Int) = 3 by decide), if_true]
        simp [denS]
      cases l with
      | nil =>
        exact ⟨[q], b, rfl, by simp, fun hb' => ⟨srt1 q, fun x => by
          rw [hd]
          have := (hb hb').2
          simp at this
          simp [this]⟩⟩
      | cons z l =>
        have : decide (((z :: l).length : Int) > 0) = true := decide_eq_true (by simp)
        rw [this, if_pos rfl]
        exact ⟨[], b, rfl, by simp, fun hb' => ⟨srt0, fun x => by
          rw [hd]
          have := ((hb hb').2 z).1 (by simp)
          simp
          intro _
          exact ⟨z, this⟩⟩⟩
    rw [show (p.Op == 4) = false by simpa using h4, if_neg (by simp)]
    by_cases h5 : p.Op = 5
    · rw [show (p.Op == 5) = true by simpa using h5, if_pos rfl]
      obtain ⟨f0, f1⟩ := form_put5 hf h5
      rw [s_with q p.N f0 f1]
      exact ⟨[_], true, rfl, by simp, fun _ => ⟨srt1 _, fun x => by rw [den_eq, if_neg h0, if_neg h1, if_neg h2, if_neg h3, if_neg h4, if_pos h5]; simp⟩⟩
    rw [show (p.Op == 5) = false by simpa using h5, if_neg (by simp)]
    have h67 : p.Op = 6 ∨ p.Op = 7 := by omega
    have hks := hkid (form_all hf h67).1
    by_cases h6 : p.Op = 6
    · rw [show (p.Op == 6) = true by simpa using h6, if_pos rfl]
      have hd : ∀ x, den st p q x ↔ denQ st p.Kids q x := fun x => by rw [den_eq, if_neg h0, if_neg h1, if_neg h2, if_neg h3, if_neg h4, if_neg h5, if_pos h6]
      have loop := forR_list (ref07_run_b1 p st (ref07_run_f k)) p.Kids (fun d s => Srt s ∧ s.length ≤ 64 ∧ ∀ x, x ∈ s ↔ denQ st d q x) (fun _ => False) (fun r => r.2 = false ∧ r.1 = []) [q] ⟨srt1 q, by simp, fun x => by simp [denQ]⟩ (fun i kid s hx ⟨p1, p2, p3⟩ => by
        have hm := List.mem_of_getElem? hx
        have inner := forR_list (ref07_run_b2 p st s (i : Int) (ref07_run_f k)) s (fun d z => Srt z ∧ z.length ≤ 64 * d.length ∧ ∀ x, x ∈ z ↔ ∃ y ∈ d, den st kid y x) (fun _ => False) (fun r => r = Br.ret ([], false)) [] ⟨srt0, by simp, by simp⟩ (fun j y z hy ⟨g1, g2, g3⟩ => by
          have hj : j < s.length := (List.getElem?_eq_some_iff.1 hy).1
          have htj : (s.take j).length = j := by simp; omega
          obtain ⟨l, b, e, hl, hb⟩ := hks kid hm y
          simp only [ref07_run_b2, gat_nat, hx, hy, Option.bind_some, e]
          cases b with
          | false => exact .inr (.inr ⟨_, rfl, rfl⟩)
          | true =>
            obtain ⟨_, hb2⟩ := hb rfl
            obtain ⟨r, e2, u1, u2, u3⟩ := s_union g1 (m := l) (by unfold BIG; omega)
            simp only [Bool.not_true, Bool.false_eq_true, if_false, e2, Option.bind_some]
            refine .inl ⟨r, rfl, u1, by simp only [List.length_append, List.length_singleton]; omega, fun x => ?_⟩
            rw [u3, g3, hb2]
            simp only [List.mem_append, List.mem_singleton]
            constructor
            · rintro (⟨w, hw, h⟩ | h)
              · exact ⟨w, .inl hw, h⟩
              · exact ⟨y, .inr rfl, h⟩
            · rintro ⟨w, hw | rfl, h⟩
              · exact .inl ⟨w, hw, h⟩
              · exact .inr h)
        simp only [ref07_run_b1]
        rcases inner with ⟨z, e, hz | hz⟩ | ⟨r, e, rfl⟩
        · obtain ⟨g1, g2, g3⟩ := hz
          rw [e]
          simp only [Option.bind_some]
          by_cases c : (z.length : Int) > 64
          · rw [decide_eq_true c]
            exact .inr (.inr ⟨_, rfl, rfl, rfl⟩)
          · rw [decide_eq_false c]
            refine .inl ⟨z, rfl, g1, by omega, fun x => ?_⟩
            rw [g3, denQ_app]
            constructor
            · rintro ⟨y, hy, h⟩; exact ⟨y, (p3 y).1 hy, denQ_one.2 h⟩
            · rintro ⟨y, hy, h⟩; exact ⟨y, (p3 y).2 hy, denQ_one.1 h⟩
        · exact hz.elim
        · rw [e]; exact .inr (.inr ⟨_, rfl, rfl, rfl⟩))
      rcases loop with ⟨z, e, hz | hz⟩ | ⟨⟨r1, r2⟩, e, hr1, hr2⟩
      · rw [e]
        exact ⟨z, true, rfl, hz.2.1, fun _ => ⟨hz.1, fun x => by rw [hz.2.2, hd]⟩⟩
      · exact hz.elim
      · rw [e]
        simp only at hr1 hr2
        subst hr1; subst hr2
        exact ⟨[], false, rfl, by simp, fun h => by cases h⟩
    rw [show (p.Op == 6) = false by simpa using h6, if_neg (by simp)]
    have hd : ∀ x, den st p q x ↔ denS st p.Kids q x := fun x => by rw [den_eq, if_neg h0, if_neg h1, if_neg h2, if_neg h3, if_neg h4, if_neg h5, if_neg h6]
    have loop := forR_list (ref07_run_b3 p st q (ref07_run_f k)) p.Kids (fun d s => Srt s ∧ s.length ≤ 64 ∧ ∀ x, x ∈ s ↔ denS st d q x) (fun _ => False) (fun r => r.2 = false ∧ r.1 = []) [] ⟨srt0, by simp, fun x => by simp [denS]⟩ (fun i kid s hx ⟨p1, p2, p3⟩ => by
      have hm := List.mem_of_getElem? hx
      obtain ⟨l, b, e, hl, hb⟩ := hks kid hm q
      simp only [ref07_run_b3, gat_nat, hx, Option.bind_some, e]
      cases b with
      | false => exact .inr (.inr ⟨_, rfl, rfl, rfl⟩)
      | true =>
        obtain ⟨_, hb2⟩ := hb rfl
        obtain ⟨r, e2, u1, u2, u3⟩ := s_union p1 (m := l) (by unfold BIG; omega)
        simp only [Bool.not_true, Bool.false_eq_true, if_false, e2, Option.bind_some]
        by_cases c : (r.length : Int) > 64
        · rw [decide_eq_true c]
          exact .inr (.inr ⟨_, rfl, rfl, rfl⟩)
        · rw [decide_eq_false c]
          refine .inl ⟨r, rfl, u1, by omega, fun x => ?_⟩
          rw [u3, p3, hb2, denS_ex, denS_ex]
          simp only [List.mem_append, List.mem_singleton]
          constructor
          · rintro (⟨w, hw, h⟩ | h)
            · exact ⟨w, .inl hw, h⟩
            · exact ⟨kid, .inr rfl, h⟩
          · rintro ⟨w, hw | rfl, h⟩
            · exact .inl ⟨w, hw, h⟩
            · exact .inr h)
    rcases loop with ⟨z, e, hz | hz⟩ | ⟨⟨r1, r2⟩, e, hr1, hr2⟩
    · rw [e]
      exact ⟨z, true, rfl, hz.2.1, fun _ => ⟨hz.1, fun x => by rw [hz.2.2, hd]⟩⟩
    · exact hz.elim
    · rw [e]
      simp only at hr1 hr2
      subst hr1; subst hr2
      exact ⟨[], false, rfl, by simp, fun h => by cases h⟩

end Go.AM
