import Derived.Test.YtnnkfanmokeiaaaPN4
import Derived.Test.YtnnkfanmokeiaaaPNA
set_option linter.unusedVariables false
set_option linter.unusedSimpArgs false
namespace Go.AM
open Go
def Gd (n d : Nat) (p : aj) : Prop := bx p ≤ n ∧ bW p ≤ d ∧ cr 4 p = true ∧ cF p = true
theorem Gd.not {n d : Nat} {p : aj} (h : Gd n d p) : Gd (1 + n) (1 + d) ⟨4, 0, 0, [p]⟩ := by
  obtain ⟨h1, h2, h3, h4⟩ := h
  refine ⟨by rw [gr]; simp [bT]; omega, by rw [eK]; simp [cP]; omega, by rw [gv]; simp [h3, h4], by rw [gu]; simp⟩
theorem fx {o : Int} (ho : o = 6 ∨ o = 7) {n d m e : Nat} {p r : aj} (h : Gd n d p) (k : Gd m e r) : Gd (1 + (n + m)) (1 + max d e) ⟨o, 0, 0, [p, r]⟩ := by
  obtain ⟨h1, h2, h3, h4⟩ := h
  obtain ⟨k1, k2, k3, k4⟩ := k
  refine ⟨by rw [gr]; simp [bT]; omega, by rw [eK]; simp [cP]; omega, ?_, ?_⟩
  · rw [gv]; rcases ho with rfl | rfl <;> simp [h3, k3]
  · rw [gu]; rcases ho with rfl | rfl <;> simp [h4, k4]
theorem sI : Gd 1 1 ⟨1, 0, 0, []⟩ := ⟨by simp [bx, bT], by simp [bW, cP], by rw [gv]; simp, by rw [gu]; simp⟩
theorem sJ : Gd 1 1 ⟨0, 0, 0, []⟩ := ⟨by simp [bx, bT], by simp [bW, cP], by rw [gv]; simp, by rw [gu]; simp⟩
section
variable (st : List Int) (q : A8 Int)
theorem sK {n d : Nat} {p : aj} (h : Gd n d p) (hn : n ≤ 300) (hd : d ≤ 20) : dY p st q = some (ol (ev st q p) q, 0) := by
  obtain ⟨h1, h2, h3, h4⟩ := h
  have hb : bx p ≤ b7 := by unfold b7; omega
  have hr : lH p st q = some (ol (ev st q p) q) := oU st q _ _ (fw hb) h4 h3
  simp only [dY, oO, Option.bind_some, sx hb, hr]
  rw [if_pos (⟨by omega, by omega⟩ : bx p ≤ 300 ∧ bW p ≤ 20), h3]
  rfl
theorem oV (l : List (A8 Int)) : j0 l l = some true := by
  unfold j0
  rw [if_neg (by simp)]
  have := j3 (lP l l) (fun _ _ _ => (none : Option Bool)) l fun pre x r e => by
    simp only [lP, hM e, Option.bind_some]
    simp [jK]
  rw [this]
  have e : ∀ (l pre : List (A8 Int)), dZ (fun _ _ _ => (none : Option Bool)) pre l = none := by
    intro l
    induction l with
    | nil => intro pre; rfl
    | cons x l ih => intro pre; simp only [dZ]; exact ih _
  rw [e]; rfl
theorem i4 {a b : aj} {l : List (A8 Int)} (ha : dY a st q = some (l, 0)) (hb : dY b st q = some (l, 0)) : eJ st q [a, b] = some true := by
  unfold eJ
  rw [show bF 0 (([a, b] : List aj).length : Int) = [0, 1] from rfl]
  have g0 : bt [a, b] 0 = some a := rfl
  have g1 : bt [a, b] 1 = some b := rfl
  simp [cd, lQ, g0, g1, ha, hb, oV]
theorem sL {a b c : aj} {l : List (A8 Int)} (ha : dY a st q = some (l, 0)) (hb : dY b st q = some (l, 0)) (hc : dY c st q = some (l, 0)) : eJ st q [a, b, c] = some true := by
  unfold eJ
  rw [show bF 0 (([a, b, c] : List aj).length : Int) = [0, 1, 2] from rfl]
  have g0 : bt [a, b, c] 0 = some a := rfl
  have g1 : bt [a, b, c] 1 = some b := rfl
  have g2 : bt [a, b, c] 2 = some c := rfl
  simp [cd, lQ, g0, g1, g2, ha, hb, hc, oV]
end
def e7 (p : aj) : Bool := iY p && decide (bx p ≤ 40) && decide (bW p ≤ 12)
theorem sM {a b : aj} (ha : bx a ≤ b7) (hb : bx b ≤ b7) : jZ [a, b] = some (e7 a && e7 b) := by
  have key : ∀ x : aj, bx x ≤ b7 → ((iW x).bind fun r8 => ((if (!r8) then some true else (g8 x).bind fun r10 => (if decide (r10 > 40) then some true else (g9 x).bind fun r12 => some (decide (r12 > 12))))).bind fun y13 => (if y13 then some (Br.ret false) else some (.next ()) : Option (Br Unit Bool))) = some (if e7 x then .next () else .ret false) := by
    intro x hx
    rw [sA hx, oH hx, oI hx]
    simp only [Option.bind_some, e7]
    by_cases hp : iY x = true
    · by_cases h1 : bx x ≤ 40
      · have e1 : ¬ (40 < (bx x : Int)) := by omega
        by_cases h2 : bW x ≤ 12
        · have e2 : ¬ (12 < (bW x : Int)) := by omega
          simp [hp, h1, h2, e1, e2]
        · have e2 : (12 < (bW x : Int)) := by omega
          simp [hp, h1, h2, e1, e2]
      · have e1 : (40 < (bx x : Int)) := by omega
        simp [hp, h1, e1]
    · simp [hp]
  unfold jZ
  rw [show bF 0 (([a, b] : List aj).length : Int) = [0, 1] from rfl]
  have g0 : bt [a, b] 0 = some a := rfl
  have g1 : bt [a, b] 1 = some b := rfl
  simp only [cd, oA, g0, g1, Option.bind_some, key a ha, key b hb]
  cases e7 a <;> cases e7 b <;> rfl
theorem oW {p : aj} (h : e7 p = true) (hp : cF p = true) : Gd 40 12 p := by
  simp only [e7, iY, Bool.and_eq_true, decide_eq_true_eq] at h
  exact ⟨h.1.2, h.2, h.1.1.2, hp⟩
theorem law_PolicyNots {l0 l1 : List law05_Step} (h0 : StepOk l0) (h1 : StepOk l1) (st : List Int) (q : A8 Int) : law07_PolicyNots ⟨l0, l1⟩ st q = some true := by
  obtain ⟨a, oka, ea, sa⟩ := oP h0
  obtain ⟨b, okb, eb, sb⟩ := oP h1
  have ba : bx a ≤ b7 := by unfold b7; omega
  have bb : bx b ≤ b7 := by unfold b7; omega
  unfold law07_PolicyNots
  simp only [sH, Option.bind_some, ea, eb, Bool.not_true, Bool.false_eq_true, if_false, sM ba bb, lW ba, lW bb]
  cases oka
  · rfl
  cases okb
  · rfl
  cases fa : e7 a
  · simp
  cases fb : e7 b
  · simp
  cases pa : cF a
  · simp
  cases pb : cF b
  · simp
  by_cases hl : (st.length : Int) > 6
  · simp [hl]
  simp only [hl, Bool.not_true, Bool.false_eq_true, if_false, Option.bind_some, Bool.and_self, decide_false]
  have ga := oW fa pa
  have gb := oW fb pb
  have mk : ∀ {n d : Nat} {p : aj} (v : Bool), Gd n d p → n ≤ 300 → d ≤ 20 → ev st q p = v → dY p st q = some (ol v q, 0) := fun v g hn hd e => by rw [sK st q g hn hd, e]
  have en : ∀ p : aj, ev st q ⟨4, 0, 0, [p]⟩ = !ev st q p := fun p => by rw [hO]; simp [du]
  have es : ∀ p r : aj, ev st q ⟨7, 0, 0, [p, r]⟩ = (ev st q p || ev st q r) := fun p r => by rw [hO]; simp [du]
  have eq : ∀ p r : aj, ev st q ⟨6, 0, 0, [p, r]⟩ = (ev st q p && ev st q r) := fun p r => by rw [hO]; simp [eA]
  have ei : ev st q ⟨1, 0, 0, []⟩ = true := by rw [hO]; simp
  have ed : ev st q ⟨0, 0, 0, []⟩ = false := by rw [hO]; simp
  simp only [gq, gU, fF, Option.bind_some]
  rw [i4 st q (mk true (fx (.inr rfl) ga ga.not) (by omega) (by omega) (by rw [es, en]; cases ev st q a <;> rfl)) (mk true sI (by omega) (by omega) ei)]
  simp only [Option.bind_some, if_true]
  rw [i4 st q (mk false (fx (.inl rfl) ga ga.not) (by omega) (by omega) (by rw [eq, en]; cases ev st q a <;> rfl)) (mk false sJ (by omega) (by omega) ed)]
  simp only [Option.bind_some, if_true]
  rw [sL st q (mk (ev st q a) ga.not.not (by omega) (by omega) (by rw [en, en]; cases ev st q a <;> rfl)) (mk (ev st q a) ga (by omega) (by omega) rfl) (mk (ev st q a) (fx (.inl rfl) ga ga) (by omega) (by omega) (by rw [eq]; cases ev st q a <;> rfl))]
  simp only [Option.bind_some, if_true]
  rw [i4 st q (mk (!(ev st q a || ev st q b)) (fx (.inr rfl) ga gb).not (by omega) (by omega) (by rw [en, es])) (mk (!(ev st q a || ev st q b)) (fx (.inl rfl) ga.not gb.not) (by omega) (by omega) (by rw [eq, en, en]; cases ev st q a <;> cases ev st q b <;> rfl))]
  simp only [Option.bind_some, if_true]
  rw [i4 st q (mk (!(ev st q a && ev st q b)) (fx (.inl rfl) ga gb).not (by omega) (by omega) (by rw [en, eq])) (mk (!(ev st q a && ev st q b)) (fx (.inr rfl) ga.not gb.not) (by omega) (by omega) (by rw [es, en, en]; cases ev st q a <;> cases ev st q b <;> rfl))]
  simp only [Option.bind_some, if_true]
  rw [i4 st q (mk (ev st q a && ev st q b) (fx (.inl rfl) ga gb) (by omega) (by omega) (by rw [eq])) (mk (ev st q a && ev st q b) (fx (.inl rfl) gb ga) (by omega) (by omega) (by rw [eq]; cases ev st q a <;> cases ev st q b <;> rfl))]
  rfl
end Go.AM
