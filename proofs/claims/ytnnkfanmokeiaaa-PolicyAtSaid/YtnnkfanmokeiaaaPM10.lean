import Derived.Test.YtnnkfanmokeiaaaPM7
import Derived.Test.YtnnkfanmokeiaaaPmT
/-  Several texts in one. -/
section
set_option linter.unusedVariables false
set_option linter.unusedSimpArgs false
namespace Go.AM
open Go
section
variable (st : List Int)
end
end Go.AM
end
section
namespace Go.AM
open Go
theorem vl : mY = some true := by decide +kernel
end Go.AM
end
section
set_option linter.unusedVariables false
set_option linter.unusedSimpArgs false
namespace Go.AM
open Go
section
variable (st : List Int)
def jS (p : ah) (q : Pk) : List Pk × Int := if ic p then (match ex st p q with | some l => (l, 0) | none => ([], 24)) else ([], 11)
theorem qQ {p : ah} (h : bA p ≤ ce) (q : Pk) : gm p st q = some (jS st p q) := by
  unfold gm jS ic
  rw [uS h]
  simp only [Option.bind_some]
  by_cases h1 : bA p ≤ 300 ∧ bP p ≤ 20
  · by_cases h2 : bR 4 p = true
    · have hr : kW p st q = some (ex st p q) := qP st _ _ (e9 h) h2 q
      rw [if_pos h1, h2, hr]
      simp only [if_true]
      rw [if_neg (by decide), decide_eq_true h1]
      cases ex st p q <;> rfl
    · have h2 : bR 4 p = false := by simpa using h2
      rw [if_pos h1, h2]; simp
  · rw [if_neg h1, decide_eq_false h1]; simp
theorem vm (l : List (A8 Int)) : lf l l = some true := by
  unfold lf
  rw [if_neg (by simp)]
  have := lr (nd l l) (fun _ _ _ => (none : Option Bool)) l fun pre x r e => by
    simp only [nd, iW e, Option.bind_some]
    simp [kI]
  rw [this]
  have e : ∀ (l pre : List (A8 Int)), eP (fun _ _ _ => (none : Option Bool)) pre l = none := by
    intro l
    induction l with
    | nil => intro pre; rfl
    | cons x l ih => intro pre; simp only [eP]; exact ih _
  rw [e]; rfl
end
end Go.AM
end
section
set_option linter.unusedVariables false
set_option linter.unusedSimpArgs false
namespace Go.AM
open Go
section
variable (st : List Int)
mutual
def bN : ah → ah
  | ⟨o, f, n, l⟩ => if o = 3 then (if bh st f = some n then ⟨1, 0, 0, []⟩ else ⟨0, 0, 0, []⟩) else ⟨o, f, n, jT l⟩
def jT : List ah → List ah
  | [] => []
  | x :: l => bN x :: jT l
end
theorem qR : ∀ l, jT st l = l.map (bN st)
  | [] => by rw [jT]; rfl
  | x :: l => by rw [jT, qR l]; rfl
theorem iZ (p : ah) : bN st p = if p.Op = 3 then (if bh st p.F = some p.N then ⟨1, 0, 0, []⟩ else ⟨0, 0, 0, []⟩) else ⟨p.Op, p.F, p.N, p.Kids.map (bN st)⟩ := by
  cases p; rw [bN, qR]
theorem vn {f : Int} (h : ¬ 0 ≤ f) : bh st f = none := by unfold bh; rw [if_neg h]
theorem qS (p : ah) : gK st p = some (decide (bh st p.F = some p.N)) := by
  by_cases h : 0 ≤ p.F
  · rw [qO st h]
    congr 1
    rw [Bool.eq_iff_iff]; simp
  · rw [vn st h]
    unfold gK
    rw [decide_eq_false h]; simp
theorem qT : ∀ (k : Nat) (p : ah), bP p ≤ k → bA p ≤ ce → hZ k p st = some (bN st p)
  | 0, p, h, _ => by have := d8 p; omega
  | k + 1, p, h, hb => by
    show lh (hZ k) p st = _
    have hd := dB p
    have hs := gn p
    have hl := jQ p.Kids
    unfold lh
    rw [iZ]
    by_cases h3 : p.Op = 3
    · simp only [h3, beq_self_eq_true, if_true, qS, Option.bind_some]
      by_cases c : bh st p.F = some p.N <;> simp [c]
    · have e3 : (p.Op == 3) = false := by simpa using h3
      rw [e3, if_neg (by simp), if_neg h3]
      have hc : jO p.Kids = some p.Kids := by
        unfold jO cB
        rw [if_pos (by simp; unfold ce at hb; omega)]; rfl
      rw [hc]
      simp only [Option.bind_some]
      obtain ⟨z, e, hP⟩ := kG (lg st (hZ k)) (fun i s => s = (p.Kids.map (bN st)).take i ++ p.Kids.drop i) p.Kids.length 0 p.Kids (by simp) (fun j s _ hj hP => by
        have hj' : j < p.Kids.length := by omega
        have hx : p.Kids[j]? = some p.Kids[j] := bW hj'
        have hm : p.Kids[j] ∈ p.Kids := List.getElem_mem hj'
        have hsl : s.length = p.Kids.length := by rw [hP]; simp; omega
        have hg : s[j]? = some p.Kids[j] := by
          rw [hP, List.getElem?_append_right (by simp; omega), List.getElem?_drop]
          simp only [List.length_take, List.length_map]
          rw [show j + (j - min j p.Kids.length) = j by omega]; exact hx
        have hr := qT k p.Kids[j] (by have := dK hm; omega) (gL hm hb)
        have hp : cx s (j : Int) (bN st p.Kids[j]) = some (s.set j (bN st p.Kids[j])) := by
          unfold cx; rw [if_pos (by omega), if_pos (by omega)]; simp
        refine ⟨s.set j (bN st p.Kids[j]), by simp only [lg, ey, hg, Option.bind_some, hr, hp], ?_⟩
        rw [hP]
        apply List.ext_getElem?
        intro i
        rw [List.getElem?_set]
        by_cases e : j = i
        · subst e
          rw [if_pos rfl, if_pos (by simp; omega), List.getElem?_append_left (by simp; omega), List.getElem?_take, if_pos (by omega), List.getElem?_map, hx]; rfl
        · rw [if_neg e]
          by_cases c : i < j
          · rw [List.getElem?_append_left (by simp; omega), List.getElem?_append_left (by simp; omega), List.getElem?_take, List.getElem?_take, if_pos c, if_pos (by omega)]
          · rw [List.getElem?_append_right (by simp; omega), List.getElem?_append_right (by simp; omega), List.getElem?_drop, List.getElem?_drop]
            congr 1
            simp; omega)
      have e : dQ (lg st (hZ k)) (bG 0 (p.Kids.length : Int)) p.Kids = some z := by simpa using e
      rw [e]
      simp only [Option.bind_some]
      rw [hP, Nat.zero_add, List.drop_length, List.append_nil, List.take_of_length_le (by simp)]
theorem qU : ∀ (k : Nat) (p : ah), bP p ≤ k → bA p ≤ ce → iS k p st = some (bN st p)
  | 0, p, h, _ => by have := d8 p; omega
  | k + 1, p, h, hb => by
    show lj (iS k) p st = _
    have hd := dB p
    have hs := gn p
    have hl := jQ p.Kids
    unfold lj
    rw [iZ]
    by_cases h3 : p.Op = 3
    · have := qS st p
      unfold gK at this
      simp only [Option.bind_fun_some] at this
      simp only [h3, beq_self_eq_true, if_true, this, Option.bind_some]
      by_cases c : bh st p.F = some p.N <;> simp [c]
    · have e3 : (p.Op == 3) = false := by simpa using h3
      rw [e3, if_neg (by simp), if_neg h3]
      obtain ⟨z, e, hP⟩ := kH (nh p st (iS k)) p.Kids (fun l s => s = l.map (bN st)) [] rfl (fun i x s hx hP => by
        have hm := dc hx
        have hi : i < p.Kids.length := (List.getElem?_eq_some_iff.1 hx).1
        have hr := qU k x (by have := dK hm; omega) (gL hm hb)
        have hg : cB s [bN st x] = some (s ++ [bN st x]) := by
          unfold cB
          have : s.length ≤ p.Kids.length := by rw [hP]; simp; omega
          rw [if_pos (by simp; unfold ce at hb; omega)]
        refine ⟨s ++ [bN st x], by simp only [nh, ey, hx, Option.bind_some, hr, hg], ?_⟩
        rw [hP]; simp)
      rw [e]
      simp only [Option.bind_some]
      rw [hP]
theorem qV : ∀ (k : Nat) (p : ah), bP p ≤ k → iT k p p = some true
  | 0, p, h => by have := d8 p; omega
  | k + 1, p, h => by
    show lk (iT k) p p = _
    have hd := dB p
    unfold lk
    rw [if_neg (by simp)]
    have := lw (nj p p (iT k)) p.Kids (fun (s : Unit) (_ : ah) => some s) false (fun _ _ => True) () trivial fun i x s hx _ => by
      have hm := dc hx
      have hr := qV k x (by have := dK hm; omega)
      simp only [nj, ey, hx, Option.bind_some, hr]
      exact ⟨rfl, fun _ _ => trivial⟩
    rw [this.1]
    have : ∀ l : List ah, fo (fun (s : Unit) (_ : ah) => some s) () l = some () := by
      intro l
      induction l with
      | nil => rfl
      | cons x l ih => exact ih
    rw [this]; rfl
theorem qW : ∀ (k : Nat) (p : ah), bP p ≤ k → bA (bN st p) ≤ bA p ∧ bP (bN st p) ≤ bP p
  | 0, p, h => by have := d8 p; omega
  | k + 1, p, h => by
    have hd := dB p
    rw [iZ]
    by_cases h3 : p.Op = 3
    · rw [if_pos h3]
      have h1 := qj p
      have h2 := d8 p
      split <;> exact ⟨by simp [bA, bU]; omega, by simp [bP, cK]; omega⟩
    · rw [if_neg h3]
      have key : ∀ l : List ah, (∀ x ∈ l, bA (bN st x) ≤ bA x ∧ bP (bN st x) ≤ bP x) → bU (l.map (bN st)) ≤ bU l ∧ cK (l.map (bN st)) ≤ cK l := by
        intro l
        induction l with
        | nil => intro _; simp [bU, cK]
        | cons x l ih =>
          intro hl
          have h1 := hl x (by simp)
          have h2 := ih fun y hy => hl y (by simp [hy])
          simp only [List.map_cons, bU, cK]
          omega
      have := key p.Kids fun x hx => qW k x (by have := dK hx; omega)
      rw [gn p, dB p, gn, dB]
      simp only
      omega
theorem qY : ∀ (k : Nat) (p : ah), bP p ≤ k → (cC p = true → cC (bN st p) = true) ∧ (bR 4 p = true → bR 4 (bN st p) = true)
  | 0, p, h => by have := d8 p; omega
  | k + 1, p, h => by
    have hd := dB p
    rw [iZ]
    by_cases h3 : p.Op = 3
    · rw [if_pos h3]
      split <;> exact ⟨fun _ => by rw [jP]; simp, fun _ => by rw [fK]; simp⟩
    · rw [if_neg h3]
      have hk : ∀ x ∈ p.Kids, (cC x = true → cC (bN st x) = true) ∧ (bR 4 x = true → bR 4 (bN st x) = true) := fun x hx => qY k x (by have := dK hx; omega)
      have a1 : p.Kids.all cC = true → (p.Kids.map (bN st)).all cC = true := fun h => by
        simp only [List.all_eq_true, List.mem_map] at h ⊢
        rintro x ⟨y, hy, rfl⟩; exact (hk y hy).1 (h y hy)
      have a2 : p.Kids.all (bR 4) = true → (p.Kids.map (bN st)).all (bR 4) = true := fun h => by
        simp only [List.all_eq_true, List.mem_map] at h ⊢
        rintro x ⟨y, hy, rfl⟩; exact (hk y hy).2 (h y hy)
      constructor
      · intro h
        rw [jP] at h ⊢
        simp only
        split at h
        · rename_i c; rw [if_pos c]
        · rename_i c; rw [if_neg c]
          split at h
          · rename_i c; rw [if_pos c]; exact a1 h
          · cases h
      · intro h
        rw [fK] at h ⊢
        simp only [List.length_map]
        repeat' split at h
        · rename_i c; rw [if_pos c]; exact h
        · rename_i c1 c2; rw [if_neg c1, if_pos c2]
          simp only [Bool.and_eq_true] at h ⊢
          exact ⟨⟨h.1.1, a1 h.1.2⟩, a2 h.2⟩
        · rename_i c1 c2 c3; rw [if_neg c1, if_neg c2, if_pos c3]
          simp only [Bool.and_eq_true] at h ⊢
          exact ⟨h.1, a2 h.2⟩
        · rename_i c1 c2 c3 c4; rw [if_neg c1, if_neg c2, if_neg c3, if_pos c4]; exact h
        · rename_i c1 c2 c3 c4 c5; rw [if_neg c1, if_neg c2, if_neg c3, if_neg c4, if_pos c5]; exact h
        · cases h
theorem qZ (st2 : List Int) : ∀ (k : Nat) (p : ah), bP p ≤ k → ∀ q, ex st2 (bN st p) q = ex st p q
  | 0, p, h, _ => by have := d8 p; omega
  | k + 1, p, h, q => by
    have hd := dB p
    by_cases h3 : p.Op = 3
    · have e : bN st p = if bh st p.F = some p.N then ⟨1, 0, 0, []⟩ else ⟨0, 0, 0, []⟩ := by rw [iZ, if_pos h3]
      rw [e, gN st p, if_neg (by omega : ¬ p.Op = 0), if_neg (by omega : ¬ p.Op = 1), if_neg (by omega : ¬ p.Op = 2), if_pos h3]
      by_cases c : bh st p.F = some p.N
      · rw [if_pos c, gN, c]; simp [ol]
      · rw [if_neg c, gN]
        have : (bh st p.F == some p.N) = false := by simpa using c
        rw [this]; simp [ol]
    · have e : bN st p = ⟨p.Op, p.F, p.N, p.Kids.map (bN st)⟩ := by rw [iZ, if_neg h3]
      rw [e, gN st p, gN]
      simp only [if_neg h3]
      have hk : ∀ x ∈ p.Kids, ∀ q, ex st2 (bN st x) q = ex st x q := fun x hx q => qZ st2 k x (by have := dK hx; omega) q
      have eN : fp st2 (p.Kids.map (bN st)) q = fp st p.Kids q := by
        cases hkk : p.Kids with
        | nil => simp [fp]
        | cons x l =>
          rw [List.map_cons, fp, fp, hk x (by rw [hkk]; simp) q]
      have eS : ∀ (l : List ah) (s : List Pk), (∀ x ∈ l, ∀ q, ex st2 (bN st x) q = ex st x q) → ft st2 (l.map (bN st)) q s = ft st l q s := by
        intro l
        induction l with
        | nil => intro s _; simp [ft]
        | cons x l ih =>
          intro s hl
          rw [List.map_cons, ft, ft, hl x (by simp) q]
          congr 1
          funext s
          exact ih s fun y hy => hl y (by simp [hy])
      have eQ : ∀ (l : List ah) (s : List Pk), (∀ x ∈ l, ∀ q, ex st2 (bN st x) q = ex st x q) → fq st2 (l.map (bN st)) s = fq st l s := by
        intro l
        induction l with
        | nil => intro s _; simp [fq]
        | cons x l ih =>
          intro s hl
          have e : (fun (a : List Pk) y => (ex st2 (bN st x) y).map fun m => a ++ m) = fun a y => (ex st x y).map fun m => a ++ m := by
            funext a y; rw [hl x (by simp) y]
          rw [List.map_cons, fq, fq, e]
          congr 1
          funext s
          exact ih s fun y hy => hl y (by simp [hy])
      rw [eN, eS _ _ hk, eQ _ _ hk]
end
theorem law_PolicyAt {l : List law05_Step} (h : StepOk l) (sts : A2 (List Int)) (q : Pk) : law07_PolicyAt l sts q = some true := by
  obtain ⟨p, ok, e, hs⟩ := uW h
  have hb : bA p ≤ ce := by unfold ce; omega
  have a1 : nf p sts.a0 = some (bN sts.a0 p) := qT sts.a0 _ _ (e9 hb) hb
  have a2 : ni p sts.a0 = some (bN sts.a0 p) := qU sts.a0 _ _ (e9 hb) hb
  obtain ⟨z1, z2⟩ := qW sts.a0 _ p (Nat.le_refl _)
  have hb2 : bA (bN sts.a0 p) ≤ ce := by omega
  have a3 : nk (bN sts.a0 p) (bN sts.a0 p) = some true := qV _ _ (e9 hb2)
  unfold law07_PolicyAt
  simp only [vl, Option.bind_some, e, a1, a2, a3, uV hb, Bool.not_true, Bool.false_eq_true, if_false, qQ _ hb q, qQ _ hb2 q]
  split
  · rfl
  cases hp : ic p
  · rfl
  · have hm : jS sts.a1 (bN sts.a0 p) q = jS sts.a0 p q := by
      unfold jS
      have hp2 : ic (bN sts.a0 p) = true := by
        unfold ic at hp ⊢
        simp only [Bool.and_eq_true, decide_eq_true_eq] at hp ⊢
        exact ⟨by omega, (qY sts.a0 _ p (Nat.le_refl _)).2 hp.2⟩
      rw [hp, hp2, qZ sts.a0 sts.a1 _ p (Nat.le_refl _)]
    rw [hm]
    simp [vm]
end Go.AM
end
