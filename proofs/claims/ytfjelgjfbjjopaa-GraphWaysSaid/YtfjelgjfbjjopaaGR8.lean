import Derived.Test.YtfjelgjfbjjopaaGR0
import Derived.Test.YtfjelgjfbjjopaaGR7
/-  Several texts in one. -/
section
set_option linter.unusedVariables false
namespace Go.AM
open Go
theorem si : kh = some true := by decide +kernel
end Go.AM
end
section
set_option linter.unusedVariables false
set_option linter.unusedSimpArgs false
namespace Go.AM
open Go
theorem oR (l : List Int) : il l l = some true := by
  unfold il
  rw [if_neg (by simp)]
  rw [jU _ (fun _ => none) l (fun j x hj => by
    simp only [mm, cm, hj, Option.bind_some]
    simp [iY])]
  have : ∀ l : List Int, dE (fun _ => (none : Option Bool)) l = none := fun l => by
    induction l with
    | nil => rfl
    | cons x l ih => simpa [dE] using ih
  rw [this]; rfl
def fy (p : api_Port) (x : A2 api_Port) : Option (api_Port × Bool) := if (x.a0 == p) then some (x.a1, true) else if (x.a1 == p) then some (x.a0, true) else none
theorem oS : ∀ (l : List (A2 api_Port)), (c6 l).Nodup → ∀ x ∈ l, dE (fy x.a0) l = some (x.a1, true) ∧ dE (fy x.a1) l = some (x.a0, true)
  | [], _, x, hx => by cases hx
  | y :: l, hn, x, hx => by
    have hn : (y.a0 :: y.a1 :: c6 l).Nodup := hn
    rw [List.nodup_cons, List.nodup_cons] at hn
    obtain ⟨n0, n1, n2⟩ := hn
    have n01 : ¬ y.a0 = y.a1 := fun e => n0 (by rw [e]; simp)
    rcases List.mem_cons.1 hx with rfl | hx
    · refine ⟨by simp [dE, fy], ?_⟩
      have : (x.a0 == x.a1) = false := by simpa using n01
      simp [dE, fy, this]
    · have m0 : x.a0 ∈ c6 l := List.mem_flatMap.2 ⟨x, hx, by simp⟩
      have m1 : x.a1 ∈ c6 l := List.mem_flatMap.2 ⟨x, hx, by simp⟩
      have ne : ∀ p ∈ c6 l, fy p y = none := by
        intro p hp
        have e0 : (y.a0 == p) = false := by
          simp only [beq_eq_false_iff_ne]; rintro rfl; exact n0 (by simp [hp])
        have e1 : (y.a1 == p) = false := by
          simp only [beq_eq_false_iff_ne]; rintro rfl; exact n1 hp
        simp [fy, e0, e1]
      obtain ⟨h1, h2⟩ := oS l n2 x hx
      refine ⟨?_, ?_⟩
      · simp only [dE, ne _ m0]; exact h1
      · simp only [dE, ne _ m1]; exact h2
theorem oT (t : api_Topo) (p : api_Port) {q : api_Port × Bool} (h : dE (fy p) t.Links = some q) : io t p = some q := by
  unfold io
  rw [jU _ (fy p) t.Links (fun j x hj => by
    simp only [mw, cm, hj, Option.bind_some, fy]
    by_cases c : (x.a0 == p) = true
    · simp only [c, if_true]; rfl
    · simp only [c, if_false]
      by_cases c2 : (x.a1 == p) = true
      · simp only [c2, if_true]; rfl
      · simp only [c2, if_false]; rfl)]
  rw [h]; rfl
theorem j1 {t : api_Topo} (wf : Wf t) {a : Nat} {v : Int} (hv : t.Switches[a]? = some v) (x : Int) : (x == v) = true ↔ pl t.Switches x = a := by
  constructor
  · intro h
    have : x = v := by simpa using h
    subst this; exact wf.id a x hv
  · intro h
    rcases oL t.Switches x with ⟨k, h1, h2⟩ | ⟨h1, _⟩
    · have : k = a := by omega
      subst this
      rw [hv] at h2; cases h2; simp
    · omega
theorem sj {t : api_Topo} (wf : Wf t) {a b : Nat} {va vb : Int} (ha : t.Switches[a]? = some va) (hb : t.Switches[b]? = some vb) : ∃ p : Int × Bool, fU t a b = some p ∧
    ((¬ bL t (-1) a b ∧ p = (0, false)) ∨ (bL t (-1) a b ∧ p.2 = true ∧ ∃ o : api_Port, io t (api_Port.mk va p.1) = some (o, true) ∧ o.Sw = vb)) := by
  have han := (List.getElem?_eq_some_iff.1 ha).1
  have hbn := (List.getElem?_eq_some_iff.1 hb).1
  unfold fU
  by_cases e : a = b
  · subst e
    have c : ((decide ((a : Int) < 0)) || ((decide ((a : Int) ≥ (t.Switches.length : Int))) || ((decide ((a : Int) < 0)) || ((decide ((a : Int) ≥ (t.Switches.length : Int))) || ((a : Int) == (a : Int)))))) = true := by simp
    rw [c, if_pos rfl]
    exact ⟨_, rfl, .inl ⟨fun ⟨_, _, _, _, _, h, _⟩ => h rfl, rfl⟩⟩
  have c : ((decide ((a : Int) < 0)) || ((decide ((a : Int) ≥ (t.Switches.length : Int))) || ((decide ((b : Int) < 0)) || ((decide ((b : Int) ≥ (t.Switches.length : Int))) || ((a : Int) == (b : Int)))))) = false := by
    simp; omega
  rw [c, if_neg (by decide)]
  simp only [cm, ha, hb, Option.bind_some]
  rw [gC _ (fun _ x _ => if ((x.a0.Sw == va) && (x.a1.Sw == vb)) then some (x.a0.Pt, true) else if ((x.a1.Sw == va) && (x.a0.Sw == vb)) then some (x.a1.Pt, true) else none) t.Links (fun pre x r e => by
    simp only [ml, hJ e, Option.bind_some]
    by_cases c1 : ((x.a0.Sw == va) && (x.a1.Sw == vb)) = true
    · simp only [c1, if_true]; rfl
    · simp only [c1, if_false]
      by_cases c2 : ((x.a1.Sw == va) && (x.a0.Sw == vb)) = true
      · simp only [c2, if_true]; rfl
      · simp only [c2, if_false]; rfl)]
  simp only [Option.bind_some]
  have cond1 : ∀ x : A2 api_Port, ((x.a0.Sw == va) && (x.a1.Sw == vb)) = true ↔ pl t.Switches x.a0.Sw = a ∧ pl t.Switches x.a1.Sw = b := fun x => by
    rw [Bool.and_eq_true, j1 wf ha, j1 wf hb]
  have cond2 : ∀ x : A2 api_Port, ((x.a1.Sw == va) && (x.a0.Sw == vb)) = true ↔ pl t.Switches x.a1.Sw = a ∧ pl t.Switches x.a0.Sw = b := fun x => by
    rw [Bool.and_eq_true, j1 wf ha, j1 wf hb]
  cases hr : cA (fun (_ : List (A2 api_Port)) x _ => if ((x.a0.Sw == va) && (x.a1.Sw == vb)) then some (x.a0.Pt, true) else if ((x.a1.Sw == va) && (x.a0.Sw == vb)) then some (x.a1.Pt, true) else none) [] t.Links with
  | none =>
    refine ⟨_, rfl, .inl ⟨?_, rfl⟩⟩
    rintro ⟨i, x, hi, hx, _, _, h⟩
    have := iZ _ _ hr i x hx
    rcases h with h | ⟨h1, h2⟩
    · rw [if_pos ((cond1 x).2 h)] at this; cases this
    · by_cases c1 : ((x.a0.Sw == va) && (x.a1.Sw == vb)) = true
      · rw [if_pos c1] at this; cases this
      · rw [if_neg c1, if_pos ((cond2 x).2 ⟨h2, h1⟩)] at this; cases this
  | some p =>
    obtain ⟨k, x, h1, h2, _⟩ := jX _ _ hr
    have hk := (List.getElem?_eq_some_iff.1 h1).1
    obtain ⟨o1, o2⟩ := oS t.Links wf.nd x (df h1)
    refine ⟨p, rfl, .inr ?_⟩
    by_cases c1 : ((x.a0.Sw == va) && (x.a1.Sw == vb)) = true
    · rw [if_pos c1] at h2
      cases h2
      refine ⟨⟨k, x, hk, h1, by omega, e, .inl ((cond1 x).1 c1)⟩, rfl, x.a1, ?_, ?_⟩
      · have : api_Port.mk va x.a0.Pt = x.a0 := by
          have := (Bool.and_eq_true _ _ ▸ c1).1
          have : x.a0.Sw = va := by simpa using this
          rw [← this]
        rw [this]; exact oT t _ o1
      · have := (Bool.and_eq_true _ _ ▸ c1).2
        simpa using this
    · rw [if_neg c1] at h2
      by_cases c2 : ((x.a1.Sw == va) && (x.a0.Sw == vb)) = true
      · rw [if_pos c2] at h2
        cases h2
        have g := (cond2 x).1 c2
        refine ⟨⟨k, x, hk, h1, by omega, e, .inr ⟨g.2, g.1⟩⟩, rfl, x.a0, ?_, ?_⟩
        · have : api_Port.mk va x.a1.Pt = x.a1 := by
            have := (Bool.and_eq_true _ _ ▸ c2).1
            have : x.a1.Sw = va := by simpa using this
            rw [← this]
          rw [this]; exact oT t _ o2
        · have := (Bool.and_eq_true _ _ ▸ c2).2
          simpa using this
      · rw [if_neg c2] at h2; cases h2
theorem law_GraphWays (t : api_Topo) (a b : Int) : law29_GraphWays t a b = some true := by
  unfold law29_GraphWays
  obtain ⟨c, hc, hwf⟩ := rP t
  simp only [si, Option.bind_some, Bool.not_true, Bool.false_eq_true, if_false, hc]
  by_cases c0 : (c != 0) = true
  · rw [if_pos c0]
  rw [if_neg c0]
  have wf := hwf (by simpa using c0)
  by_cases ho : a < 0 ∨ (t.Switches.length : Int) ≤ a ∨ b < 0 ∨ (t.Switches.length : Int) ≤ b
  · obtain ⟨w1, w2⟩ := sf wf ho
    have hp : fU t a b = some (0, false) := by
      unfold fU
      have c : ((decide (a < 0)) || ((decide (a ≥ (t.Switches.length : Int))) || ((decide (b < 0)) || ((decide (b ≥ (t.Switches.length : Int))) || (a == b))))) = true := by
        simp; omega
      rw [c, if_pos rfl]
    simp only [w1, w2, Option.bind_some, oR, sh wf ho, oP (-1) ho, hp]
    by_cases h1 : a < 0
    · simp [h1]
    · by_cases h2 : (t.Switches.length : Int) ≤ a
      · simp [h1, h2]
      · by_cases h3 : b < 0
        · simp [h1, h2, h3]
        · have h4 : (t.Switches.length : Int) ≤ b := by omega
          simp [h1, h2, h3, h4]
  · obtain ⟨x, rfl⟩ := Int.eq_ofNat_of_zero_le (show 0 ≤ a by omega)
    obtain ⟨y, rfl⟩ := Int.eq_ofNat_of_zero_le (show 0 ≤ b by omega)
    have hx : x < t.Switches.length := by omega
    have hy : y < t.Switches.length := by omega
    obtain ⟨r5, e5, e6⟩ : ∃ r, ff t x y = some r ∧ fC t x y = some r := by
      obtain ⟨d, _, ⟨_, h1, h2⟩ | ⟨k, D, l, _, _, _, _, h1, h2⟩⟩ := se wf hx hy
      · exact ⟨_, h1, h2⟩
      · exact ⟨_, h1, h2⟩
    obtain ⟨d, hd1, hd2⟩ := sg wf hx hy
    obtain ⟨d', hd3, hd4⟩ := lO wf (-1) hx hy
    obtain rfl := hd2.uniq hd4
    have hva : t.Switches[x]? = some t.Switches[x] := bw hx
    have hvb : t.Switches[y]? = some t.Switches[y] := bw hy
    generalize t.Switches[x] = va at hva
    generalize t.Switches[y] = vb at hvb
    obtain ⟨p, hp, hpn⟩ := sj wf hva hvb
    obtain ⟨r, hr, hrn⟩ := lL t (-1) x y
    have c1 : ¬ ((x : Int) < 0) := by omega
    have c2 : ¬ ((x : Int) ≥ (t.Switches.length : Int)) := by omega
    have c3 : ¬ ((y : Int) < 0) := by omega
    have c4 : ¬ ((y : Int) ≥ (t.Switches.length : Int)) := by omega
    simp only [Int.ofNat_eq_natCast, e5, e6, Option.bind_some, beq_self_eq_true, Bool.not_true, Bool.false_eq_true, if_false, oR, hd1, hd3, bne_self_eq_false, hp, decide_eq_false c1, decide_eq_false c2, decide_eq_false c3, decide_eq_false c4, hr]
    rcases hpn with ⟨h1, rfl⟩ | ⟨h1, h2, o, h3, h4⟩
    · have : r = false := by
        cases r with
        | false => rfl
        | true => exact (h1 (hrn.1 rfl)).elim
      subst this; rfl
    · have : r = true := hrn.2 h1
      subst this
      simp only [Bool.not_true, Bool.false_eq_true, if_false, cm, hva, Option.bind_some, h3, h2, if_true, hvb, h4, beq_self_eq_true]
end Go.AM
end
