import Derived.Test.YtfjelgjfbjjopaaDoorNSm
set_option linter.unusedVariables false
set_option linter.unusedSimpArgs false
namespace Go.AM
open Go
def fM (a : A8 Int) (x : api_Pair) : Bool := !(decide (0 ≤ x.F ∧ x.F < 8)) || (a.l[x.F.toNat]?).getD 0 != x.N
theorem v5 (a : A8 Int) {i : Int} (h : 0 ≤ i ∧ i < 8) : a.get i = some ((a.l[i.toNat]?).getD 0) := by
  unfold A8.get aL
  rw [if_pos h.1]
  have : i.toNat < a.l.length := by simp [A8.l]; omega
  rw [bt this]; rfl
theorem BP (a : A8 Int) (l : List api_Pair) (hl : l.length ≤ 1000) : om a l = some (!(l.any (fM a))) := by
  unfold om
  rw [u3 l (fM a) hl (fun y0 => ol y0 a) (fun x => by
    simp only [ol, qL, Option.bind_some]
    unfold fM
    by_cases h : 0 ≤ x.F ∧ x.F < 8
    · have hb : ((decide (x.F ≥ 0)) && (decide (x.F < 8))) = true := by simp; omega
      rw [hb]
      simp only [Bool.not_true, Bool.false_eq_true, if_false, v5 a h, Option.bind_some, h, and_self, decide_true, Bool.false_or]
    · have hb : ((decide (x.F ≥ 0)) && (decide (x.F < 8))) = false := by
        rw [Bool.eq_false_iff]; intro hc; simp at hc; exact h ⟨hc.1, hc.2⟩
      rw [hb]
      simp only [Bool.not_false, if_true, Option.bind_some, h, decide_false, Bool.not_false, Bool.true_or])]
  rfl
theorem v6 (a : A8 Int) (l : List api_Pair) : me a l = some (!(l.any (fM a))) := by
  unfold me
  rw [eV (fM a) false l _ fun j x hj => by
    simp only [uJ, bK, hj, Option.bind_some]
    unfold fM
    by_cases h0 : x.F < 0
    · have h : ¬ (0 ≤ x.F ∧ x.F < 8) := by omega
      simp [h0, h]
    · by_cases h7 : x.F > 7
      · have h : ¬ (0 ≤ x.F ∧ x.F < 8) := by omega
        simp [h0, h7, h]
      · have h : 0 ≤ x.F ∧ x.F < 8 := by omega
        simp only [h0, h7, decide_false, Bool.false_eq_true, if_false, v5 a h, Option.bind_some, h, and_self, decide_true, Bool.not_true, Bool.false_or]
        cases ((a.l[x.F.toNat]?).getD 0 != x.N) <;> rfl]
  cases l.any (fM a) <;> rfl
def v7 (p : api_Program) (V : List aV) (a : A8 Int) (e : Nat) : Prop := ∃ (h : e < V.length) (r : api_Rule), aL p.Rules V[e].Rule = some r ∧ (r.When.any (fM a)) = false
theorem v9 {p : api_Program} {n : aK} {q : GS} {XS : List (List Int)} {XE : List az} (h : vZ p n q XS XE) (hw8 : ∀ r ∈ p.Rules, r.When.length ≤ 1000) (a : A8 Int) {s : Nat} (hs : (s : Int) ∈ q.S) :
    ∃ t : Nat, md p n (s : Int) a = some (t : Int) ∧ (t : Int) ∈ q.S ∧ t < 2 ^ 64 ∧ iJ s t ∧ (∀ e, t.testBit e = true → s.testBit e = true ∨ v7 p q.V a e) ∧ ((∀ r ∈ p.Rules, (r.When.any (fM a)) = true) → t = s) := by
  obtain ⟨en, g1, g2, g3⟩ := vM (T := TT XS q.A) ⟨h.inv.v64, fun s hs => by obtain ⟨z, z1, z2⟩ := h.inv.sin s hs; exact ⟨z, z1, z2.1⟩⟩ hs
  rw [← h.eq] at g1
  have hn : n.Sets = q.S := by rw [h.eq]
  have hv := h.inv.v64
  unfold md
  rw [g1]
  simp only [Option.bind_some, qS g2]
  obtain ⟨s0, hs0, hs64⟩ := h.inv.sin _ hs
  have hse : s0 = s := by omega
  subst hse
  obtain ⟨st, e1, t, rfl, t1, t2, t3, t4, t5⟩ := eB (qM p n a (bR (bits en))) (bR (bits en)) (fun l st => ∃ t : Nat, st = (t : Int) ∧ (t : Int) ∈ q.S ∧ t < 2 ^ 64 ∧ iJ s0 t ∧ (∀ e, t.testBit e = true → s0.testBit e = true ∨ v7 p q.V a e) ∧ ((∀ r ∈ p.Rules, (r.When.any (fM a)) = true) → t = s0)) (s0 : Int)
    ⟨s0, rfl, hs, hs64.1, fun i hi => hi, fun e he => .inl he, fun _ => rfl⟩ (by
    rintro i y _ hy ⟨t, rfl, t1, t2, t3, t4, t5⟩
    obtain ⟨e, he, rfl⟩ := List.mem_map.1 (cl hy)
    have hb := gw.1 he
    obtain ⟨k1, k2, k3⟩ := (g3 e).1 hb.2
    obtain ⟨h1, h2⟩ := h.inv.rul _ (List.getElem_mem k1)
    have hl : q.V[e].Rule.toNat < p.Rules.length := by omega
    have hr : aL p.Rules q.V[e].Rule = some p.Rules[q.V[e].Rule.toNat] := by
      unfold aL; rw [if_pos h1]; exact bt hl
    have hmem : p.Rules[q.V[e].Rule.toNat] ∈ p.Rules := List.getElem_mem hl
    generalize p.Rules[q.V[e].Rule.toNat] = r at hr hmem
    have hrule := vO (S := q.S) (T := TT XS q.A) k1 hr h.inv.rul
    rw [← h.eq] at hrule
    simp only [qM, bK, hy, Option.bind_some, hrule, Bool.not_true, Bool.false_eq_true, if_false, BP a r.When (hw8 r hmem)]
    cases ho : r.When.any (fM a) with
    | true => exact ⟨_, rfl, t, rfl, t1, t2, t3, t4, t5⟩
    | false =>
      simp only [Bool.not_false, Bool.not_true, Bool.false_eq_true, if_false, mm t2 hb.1, Option.bind_some, oB, hn]
      cases hx : bW q.S ((t ||| 2 ^ e : Nat) : Int) with
      | none => exact ⟨_, rfl, t, rfl, t1, t2, t3, t4, t5⟩
      | some k =>
        refine ⟨_, rfl, t ||| 2 ^ e, rfl, cl (fw hx), Nat.or_lt_two_pow t2 (hY hb.1), fun i hi => by rw [fZ, t3 i hi]; rfl, fun i hi => ?_, fun hall => ?_⟩
        · rw [fZ, Bool.or_eq_true, decide_eq_true_eq] at hi
          rcases hi with hi | rfl
          · exact t4 i hi
          · exact .inr ⟨k1, r, hr, ho⟩
        · rw [hall r hmem] at ho; cases ho)
  rw [e1]
  exact ⟨t, rfl, t1, t2, t3, t4, t5⟩
theorem lawNesSeen (a0 : api_Program) (a1 : Int) (a2 : A8 Int) (hn : kQ a0) (h1 : IntKind.u8.wrap a1 = a1) : law12_NesSeen a0 a1 a2 = some true := by
  unfold law12_NesSeen
  rw [zN]
  simp only [Option.bind_some, Bool.not_true, Bool.false_eq_true, if_false]
  obtain ⟨b, hb, hsm⟩ := z5 (api_Program.mk a0.Init (api_Pol.mk 0 0 0 []) a0.Rules)
  rw [hb]
  cases b with
  | false => rfl
  | true =>
    have hs := hsm rfl
    simp only [Option.bind_some, Bool.not_true, Bool.false_eq_true, if_false]
    obtain ⟨n, e, e1, _, _, h2⟩ := BO (api_Program.mk a0.Init (api_Pol.mk 0 0 0 []) a0.Rules) rfl hs hn
    rw [e1]
    simp only [Option.bind_some]
    by_cases c : ¬ e = 0
    · have hbe : (e != 0) = true := by simpa using c
      simp only [hbe, if_true]
    have c := Classical.not_not.1 c
    subst c
    have hbe : ((0 : Int) != 0) = false := rfl
    simp only [hbe, Bool.false_eq_true, if_false]
    obtain ⟨q, XS, XE, h⟩ := h2 rfl
    have hS : n.Sets = q.S := by rw [h.eq]
    have hV : n.Events = q.V := by rw [h.eq]
    have hpos : 0 < q.S.length := (List.getElem?_eq_some_iff.1 h.inv.s0).1
    have h256 := h.inv.s256
    have hw8 : ∀ r ∈ a0.Rules, r.When.length ≤ 1000 := fun r hr => by have := (hs.2.2 r hr).1; omega
    rw [zr] at h1
    have hw : IntKind.i64.wrap a1 = a1 := fu (by omega) (by omega)
    have hrem : lI (IntKind.i64.wrap a1) (q.S.length : Int) = some (a1.tmod (q.S.length : Int)) := by
      unfold lI; rw [if_neg (by omega), hw]
    obtain ⟨k, hk, hkl⟩ : ∃ k : Nat, a1.tmod (q.S.length : Int) = (k : Int) ∧ k < q.S.length := by
      have m1 := Int.tmod_nonneg (a := a1) (q.S.length : Int) (by omega)
      have m2 := Int.tmod_lt_of_pos a1 (b := (q.S.length : Int)) (by omega)
      exact ⟨(a1.tmod (q.S.length : Int)).toNat, by omega, by omega⟩
    rw [hS, hrem, hk]
    simp only [Option.bind_some, bK, bt hkl]
    obtain ⟨s, hse, hs64⟩ := h.inv.sin _ (List.getElem_mem hkl)
    have hsm' : ((s : Nat) : Int) ∈ q.S := by rw [← hse]; exact List.getElem_mem hkl
    rw [hse]
    obtain ⟨t, t1, t2, t3, t4, t5, _⟩ := v9 h hw8 a2 hsm'
    rw [t1]
    simp only [Option.bind_some, oB, hS]
    have hsome : (bW q.S (t : Int)).isSome = true := by
      cases hx : bW q.S (t : Int) with
      | none => exact (hM.1 hx t2).elim
      | some i => rfl
    have hand : t &&& s = s := by rw [Nat.and_comm]; exact (mr s t).2 t4
    have hcond : ((!(bW q.S (t : Int)).isSome) || ((ax .u64 (t : Int) (s : Int)) != (s : Int))) = false := by
      rw [hsome, gK t3 hs64.1, hand]; simp
    simp only [hcond, Bool.false_eq_true, if_false]
    rw [ou t3 hs64.1, zS (mg t3 s)]
    simp only [Option.bind_some]
    rw [eV (fun _ => false) false (bR (bits (d9 t s))) _ (fun j y hj => by
      obtain ⟨e, he, rfl⟩ := List.mem_map.1 (cl hj)
      have hb := (gw.1 he).2
      rw [iY] at hb
      simp only [Bool.and_eq_true, Bool.not_eq_true'] at hb
      rcases t5 e hb.1 with hc | ⟨k1, r, k2, k3⟩
      · rw [hc] at hb; exact (Bool.noConfusion hb.2)
      · have k2' : aL a0.Rules q.V[e].Rule = some r := k2
        simp only [uK, bK, hj, hV, bt k1, k2', Option.bind_some, v6, k3, Bool.not_false, Bool.not_true, Bool.false_eq_true, if_false])]
    have hA : ((bR (bits (d9 t s))).any fun _ => false) = false := by simp
    rw [hA]
    simp only [Bool.false_eq_true, if_false, d8, Option.bind_some]
    generalize hot : A8.mk (IntKind.u16.wrap (a2.a0 + 100)) a2.a1 a2.a2 a2.a3 a2.a4 a2.a5 a2.a6 a2.a7 = ot
    rw [eV (fun r => !(r.When.any (fM ot))) true a0.Rules _ (fun j r hj => by
      simp only [uL, bK, hj, Option.bind_some, hot, v6]
      cases r.When.any (fM ot) <;> rfl)]
    cases hany : a0.Rules.any fun r => !(r.When.any (fM ot)) with
    | true => rfl
    | false =>
      simp only [Bool.false_eq_true, if_false, d8, Option.bind_some]
      obtain ⟨t', u1, _, _, _, _, u2⟩ := v9 h hw8 ot hsm'
      rw [u1]
      have : t' = s := u2 fun r hr => by
        rw [List.any_eq_false] at hany
        have := hany r hr
        simpa using this
      subst this
      simp
end Go.AM
