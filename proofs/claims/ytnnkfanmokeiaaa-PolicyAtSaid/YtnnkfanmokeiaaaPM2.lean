import Derived.Test.YtnnkfanmokeiaaaAmOr
import Derived.Test.YtnnkfanmokeiaaaPmT
/-  Several texts in one. -/
section
set_option linter.unusedVariables false
set_option linter.unusedSimpArgs false
namespace Go.AM
open Go
theorem uH {P : ah → Prop} (h : ∀ p, (∀ k ∈ p.Kids, P k) → P p) : ∀ p, P p := by
  intro p
  refine ah.rec (motive_1 := P) (motive_2 := fun l => ∀ k ∈ l, P k) (fun o f n l ih => h _ ih) (fun k hk => by cases hk) (fun x l hx hl k hk => ?_) p
  rcases List.mem_cons.1 hk with rfl | hk
  · exact hx
  · exact hl k hk
noncomputable instance polDec : DecidableEq ah := fun a b => Classical.propDecidable (a = b)
mutual
def bA : ah → Nat
  | ⟨_, _, _, l⟩ => 1 + bU l
def bU : List ah → Nat
  | [] => 0
  | x :: l => bA x + bU l
end
mutual
def bP : ah → Nat
  | ⟨_, _, _, l⟩ => 1 + cK l
def cK : List ah → Nat
  | [] => 0
  | x :: l => max (bP x) (cK l)
end
mutual
def cC : ah → Bool
  | ⟨o, _, _, l⟩ => if 0 ≤ o ∧ o ≤ 4 then true else if o = 6 ∨ o = 7 then iU l else false
def iU : List ah → Bool
  | [] => true
  | x :: l => cC x && iU l
end
mutual
def bR (n : Int) : ah → Bool
  | ⟨o, f, m, l⟩ =>
    if o = 0 ∨ o = 1 then decide (l.length = 0 ∧ f = 0 ∧ m = 0)
    else if o = 4 then decide (l.length = 1 ∧ f = 0 ∧ m = 0) && iU l && iV n l
    else if o = 6 ∨ o = 7 then decide (2 ≤ l.length ∧ f = 0 ∧ m = 0) && iV n l
    else if o = 2 then decide (l.length = 0 ∧ 0 ≤ f ∧ f < 8)
    else if o = 5 then decide (l.length = 0 ∧ 1 ≤ f ∧ f < 8)
    else if o = 3 then decide (l.length = 0 ∧ 0 ≤ f ∧ f < n)
    else false
def iV (n : Int) : List ah → Bool
  | [] => true
  | x :: l => bR n x && iV n l
end
theorem gn (p : ah) : bA p = 1 + bU p.Kids := by cases p; rw [bA]
theorem dB (p : ah) : bP p = 1 + cK p.Kids := by cases p; rw [bP]
theorem nn : ∀ l, iU l = l.all cC
  | [] => by rw [iU]; rfl
  | x :: l => by rw [iU, nn l]; rfl
theorem qh (n : Int) : ∀ l, iV n l = l.all (bR n)
  | [] => by rw [iV]; rfl
  | x :: l => by rw [iV, qh n l]; rfl
theorem jP (p : ah) : cC p = if 0 ≤ p.Op ∧ p.Op ≤ 4 then true else if p.Op = 6 ∨ p.Op = 7 then p.Kids.all cC else false := by
  cases p; rw [cC, nn]
theorem fK (n : Int) (p : ah) : bR n p =
    if p.Op = 0 ∨ p.Op = 1 then decide (p.Kids.length = 0 ∧ p.F = 0 ∧ p.N = 0)
    else if p.Op = 4 then decide (p.Kids.length = 1 ∧ p.F = 0 ∧ p.N = 0) && p.Kids.all cC && p.Kids.all (bR n)
    else if p.Op = 6 ∨ p.Op = 7 then decide (2 ≤ p.Kids.length ∧ p.F = 0 ∧ p.N = 0) && p.Kids.all (bR n)
    else if p.Op = 2 then decide (p.Kids.length = 0 ∧ 0 ≤ p.F ∧ p.F < 8)
    else if p.Op = 5 then decide (p.Kids.length = 0 ∧ 1 ≤ p.F ∧ p.F < 8)
    else if p.Op = 3 then decide (p.Kids.length = 0 ∧ 0 ≤ p.F ∧ p.F < n)
    else false := by
  cases p; rw [bR, qh, nn]
theorem gq : ∀ l m, bU (l ++ m) = bU l + bU m
  | [], m => by simp [bU]
  | x :: l, m => by simp only [List.cons_append, bU, gq l m]; omega
theorem qi : ∀ l m, cK (l ++ m) = max (cK l) (cK m)
  | [], m => by simp [cK]
  | x :: l, m => by simp only [List.cons_append, cK, qi l m]; omega
theorem lm {x : ah} : ∀ {l : List ah}, x ∈ l → bA x ≤ bU l
  | y :: l, h => by
    rw [bU]
    rcases List.mem_cons.1 h with rfl | h
    · omega
    · have := lm h; omega
theorem dK {x : ah} : ∀ {l : List ah}, x ∈ l → bP x ≤ cK l
  | y :: l, h => by
    rw [cK]
    rcases List.mem_cons.1 h with rfl | h
    · omega
    · have := dK h; omega
theorem qj (p : ah) : 1 ≤ bA p := by rw [gn]; omega
theorem d8 (p : ah) : 1 ≤ bP p := by rw [dB]; omega
theorem jQ : ∀ l : List ah, l.length ≤ bU l
  | [] => by simp [bU]
  | x :: l => by
    have := jQ l; have := qj x
    rw [bU, List.length_cons]; omega
theorem qk : ∀ l : List ah, (∀ x ∈ l, bP x ≤ bA x) → cK l ≤ bU l
  | [], _ => by simp [cK]
  | x :: l, h => by
    have h1 := h x (by simp)
    have h2 := qk l fun y hy => h y (by simp [hy])
    rw [cK, bU]; omega
theorem ql (p : ah) : bP p ≤ bA p := by
  refine uH (P := fun p => bP p ≤ bA p) (fun p ih => ?_) p
  have := qk p.Kids ih
  rw [dB, gn]; omega
theorem qm {α : Type} {l : List α} {i : Nat} {x : α} (h : l[i]? = some x) : l = l.take i ++ x :: l.drop (i + 1) := by
  have hi := (List.getElem?_eq_some_iff.1 h).1
  have hx : l[i] = x := (List.getElem?_eq_some_iff.1 h).2
  rw [← hx, List.getElem_cons_drop, List.take_append_drop]
theorem uI {l : List ah} {i : Nat} {x : ah} (h : l[i]? = some x) : bU (l.take i) + bA x ≤ bU l := by
  have e := congrArg bU (qm h)
  rw [gq, bU] at e
  omega
def ce : Nat := 100000
theorem np : ∀ k p, bP p ≤ k → bA p ≤ ce → gG k p = some (bA p : Int)
  | 0, p, h, _ => by have := d8 p; omega
  | k + 1, p, h, hb => by
    show jH (gG k) p = _
    have hp := dB p; have hs := gn p
    unfold ce at hb
    obtain ⟨s', e, hP⟩ := kH (mN p (gG k)) p.Kids (fun l s => s = 1 + (bU l : Int)) 1 (by simp [bU]) (fun i x s hx hP => by
      have hm := dc hx
      have h1 := dK hm; have h2 := lm hm; have h3 := uI hx
      refine ⟨1 + (bU (p.Kids.take i ++ [x]) : Int), ?_, rfl⟩
      simp only [mN, ey, hx, Option.bind_some]
      rw [np k x (by omega) (by unfold ce; omega)]
      simp only [Option.bind_some]
      rw [hP, iL (by omega) (by omega), gq]
      simp [bU]; omega)
    simp only [jH, e, Option.bind_some]
    rw [hP, hs]; push_cast; rfl
theorem nt : ∀ k p, bP p ≤ k → bA p ≤ ce → gH k p = some (bP p : Int)
  | 0, p, h, _ => by have := d8 p; omega
  | k + 1, p, h, hb => by
    show jI (gH k) p = _
    have hp := dB p; have hs := gn p
    unfold ce at hb
    have hd := ql p
    obtain ⟨s', e, hP⟩ := kH (mP p (gH k)) p.Kids (fun l s => s = (cK l : Int)) 0 (by simp [cK]) (fun i x s hx hP => by
      have hm := dc hx
      have h1 := dK hm; have h2 := lm hm
      refine ⟨(cK (p.Kids.take i ++ [x]) : Int), ?_, rfl⟩
      simp only [mP, ey, hx, Option.bind_some]
      rw [nt k x (by omega) (by unfold ce; omega)]
      simp only [Option.bind_some]
      rw [hP, qi]
      simp only [hN, cK]
      split <;> simp <;> omega)
    simp only [jI, e, Option.bind_some]
    rw [hP, hp, iL (by omega) (by omega)]; push_cast; rw [Int.add_comm]
theorem qn : ∀ k, jM k = gG k
  | 0 => rfl
  | k + 1 => by show m0 (jM k) = jH (gG k); rw [qn k]; rfl
theorem qo : ∀ k, jN k = gH k
  | 0 => rfl
  | k + 1 => by show m5 (jN k) = jI (gH k); rw [qo k]; rfl
theorem e9 {p : ah} (h : bA p ≤ ce) : bP p ≤ cn := by
  have := ql p
  unfold ce at h
  obtain ⟨m, hm⟩ := uo 1000000 (by omega)
  omega
theorem uJ {p : ah} (h : bA p ≤ ce) : mO p = some (bA p : Int) := np _ _ (e9 h) h
theorem uK {p : ah} (h : bA p ≤ ce) : mQ p = some (bP p : Int) := nt _ _ (e9 h) h
theorem uL {p : ah} (h : bA p ≤ ce) : kY p = some (bA p : Int) := by unfold kY; rw [qn]; exact np _ _ (e9 h) h
theorem uM {p : ah} (h : bA p ≤ ce) : kZ p = some (bP p : Int) := by unfold kZ; rw [qo]; exact nt _ _ (e9 h) h
def eP {α β : Type} (step : List α → α → List α → Option β) : List α → List α → Option β
  | _, [] => none
  | pre, x :: r => match step pre x r with
    | some b => some b
    | none => eP step (pre ++ [x]) r
theorem qp {α β : Type} (f : Int → Unit → Option (Br Unit β)) (step : List α → α → List α → Option β) {l : List α} (h : ∀ pre x r, l = pre ++ x :: r → f (pre.length : Int) () = some (kI (step pre x r))) :
    ∀ suf pre, l = pre ++ suf → b9 f (bG (pre.length : Int) (l.length : Int)) () = some (jG (eP step pre suf))
  | [], pre, e => by
    have : l.length = pre.length := by rw [e]; simp
    rw [this, mH]; rfl
  | x :: r, pre, e => by
    have hl : l.length = pre.length + (r.length + 1) := by rw [e]; simp
    rw [hl, mG]
    simp only [b9]
    rw [h pre x r e]
    simp only [Option.bind_some, eP]
    cases step pre x r with
    | some b => rfl
    | none =>
      show b9 f _ () = _
      have := qp f step h r (pre ++ [x]) (by rw [e]; simp)
      rw [hl] at this
      simpa using this
theorem lr {α β : Type} (f : Int → Unit → Option (Br Unit β)) (step : List α → α → List α → Option β) (l : List α) (h : ∀ pre x r, l = pre ++ x :: r → f (pre.length : Int) () = some (kI (step pre x r))) :
    b9 f (bG 0 (l.length : Int)) () = some (jG (eP step [] l)) := by
  have := qp f step h l [] rfl
  simpa using this
theorem nu {α β : Type} (p : α → Bool) (b : β) : ∀ (suf pre : List α), eP (fun _ x _ => if p x then some b else none) pre suf = if suf.any p then some b else none
  | [], pre => rfl
  | x :: r, pre => by
    simp only [eP, List.any_cons]
    by_cases h : p x = true
    · simp [h]
    · simp [h, nu p b r]
theorem iW {α : Type} {l pre r : List α} {x : α} (e : l = pre ++ x :: r) : bh l (pre.length : Int) = some x := by
  rw [ey, e]; simp
theorem ls {α : Type} {l pre r : List α} {x : α} (e : l = pre ++ x :: r) : x ∈ l := by rw [e]; simp
theorem uN {l : List ah} {f : ah → Option Bool} {p : ah → Bool} (h : ∀ x ∈ l, f x = some (p x)) :
    kL l f = some (match eP (fun pre x _ => if p x then some (pre.length : Int) else none) [] l with | some i => i | none => -1) := by
  unfold kL
  rw [lr _ (fun pre x _ => if p x then some (pre.length : Int) else none) l (fun pre x r e => by
    simp only [qe, iW e, Option.bind_some, h x (ls e)]
    by_cases c : p x = true <;> simp [c, kI])]
  simp only [Option.bind_some]
  cases eP (fun pre x _ => if p x then some (pre.length : Int) else none) [] l <;> rfl
theorem qr (p : ah → Bool) : ∀ (suf pre : List ah), (match eP (fun pre x _ => if p x then some (pre.length : Int) else none) pre suf with | some i => decide (i ≥ 0) | none => false) = suf.any p
  | [], pre => rfl
  | x :: r, pre => by
    simp only [eP, List.any_cons]
    by_cases h : p x = true
    · simp [h]
    · simp [h, qr p r]
theorem qs {l : List ah} {f : ah → Option Bool} {p : ah → Bool} (h : ∀ x ∈ l, f x = some (p x)) : hU l f = some (l.any p) := by
  unfold hU
  rw [uN h, Option.bind_some, ← qr p l []]
  cases eP (fun pre x _ => if p x then some (pre.length : Int) else none) [] l <;> simp
end Go.AM
end
section
set_option linter.unusedVariables false
set_option linter.unusedSimpArgs false
namespace Go.AM
open Go
theorem jR {α : Type} (p : α → Bool) : ∀ l : List α, (!(l.any fun x => !p x)) = l.all p
  | [] => rfl
  | x :: l => by simp only [List.any_cons, List.all_cons, Bool.not_or, Bool.not_not, jR p l]
theorem qt : ∀ k p, bP p ≤ k → iO k p = some (cC p)
  | 0, p, h => by have := d8 p; omega
  | k + 1, p, h => by
    show kN (iO k) p = _
    have hp := dB p
    have hc : hU p.Kids (fun y0 => kM (iO k) y0) = some (p.Kids.any fun x => !cC x) :=
      qs fun x hx => by
        have := dK hx
        simp only [kM]
        rw [qt k x (by omega)]; rfl
    rw [jP]
    simp only [kN, hc, Option.bind_some, jR]
    by_cases h0 : p.Op = 0
    · simp [h0]
    by_cases h1 : p.Op = 1
    · simp [h1]
    by_cases h2 : p.Op = 2
    · simp [h2]
    by_cases h3 : p.Op = 3
    · simp [h3]
    by_cases h4 : p.Op = 4
    · simp [h4]
    by_cases h6 : p.Op = 6
    · simp [h6]
    by_cases h7 : p.Op = 7
    · simp [h7]
    have : ¬ (0 ≤ p.Op ∧ p.Op ≤ 4) := by omega
    simp [h0, h1, h2, h3, h4, h6, h7, this]
theorem qu : ∀ k p, bP p ≤ k → iQ k p = some (cC p)
  | 0, p, h => by have := d8 p; omega
  | k + 1, p, h => by
    show k5 (iQ k) p = _
    have hp := dB p
    have hc : b9 (m8 p (iQ k)) (bG 0 (p.Kids.length : Int)) () = some (jG (if p.Kids.any (fun x => !cC x) then some (Sum.inr false) else none)) := by
      rw [← nu (fun x => !cC x) (Sum.inr false) p.Kids []]
      refine lr _ _ _ fun pre x r e => ?_
      have := dK (ls e)
      simp only [m8, iW e, Option.bind_some]
      rw [qu k x (by omega)]
      simp only [Option.bind_some]
      cases cC x <;> rfl
    rw [jP]
    simp only [k5, hc, Option.bind_some, ← jR]
    by_cases h5 : p.Op = 5
    · simp [h5]
    by_cases hn : p.Op < 0
    · have h6 : p.Op ≠ 6 := by omega
      have h7 : p.Op ≠ 7 := by omega
      have : ¬ (0 ≤ p.Op ∧ p.Op ≤ 4) := by omega
      simp [h5, hn, h6, h7, this]
    by_cases hb : p.Op > 7
    · have h6 : p.Op ≠ 6 := by omega
      have h7 : p.Op ≠ 7 := by omega
      have : ¬ (0 ≤ p.Op ∧ p.Op ≤ 4) := by omega
      simp [h5, hn, hb, h6, h7, this]
    have e5 : ((p.Op == 5) || ((decide (p.Op < 0)) || (decide (p.Op > 7)))) = false := by simp [h5, hn, hb]
    rw [e5]
    by_cases h67 : p.Op = 6 ∨ p.Op = 7
    · have e6 : ((p.Op == 6) || (p.Op == 7)) = true := by simpa using h67
      have : ¬ (0 ≤ p.Op ∧ p.Op ≤ 4) := by omega
      rw [e6, if_neg this, if_pos h67]
      cases p.Kids.any (fun x => !cC x) <;> rfl
    · have e6 : ((p.Op == 6) || (p.Op == 7)) = false := by simpa using h67
      have : (0 ≤ p.Op ∧ p.Op ≤ 4) := by omega
      rw [e6, if_pos this]
      rfl
theorem uO {p : ah} (h : bA p ≤ ce) : mR p = some (cC p) := qt _ _ (e9 h)
theorem uP {p : ah} (h : bA p ≤ ce) : m9 p = some (cC p) := qu _ _ (e9 h)
theorem gL {p k : ah} (hk : k ∈ p.Kids) (h : bA p ≤ ce) : bA k ≤ ce := by
  have := lm hk; rw [gn] at h; omega
theorem fL {l : List ah} : ((l.length : Int) == 0) = decide (l.length = 0) := by
  rw [Bool.eq_iff_iff]; simp
theorem nv (n : Int) : ∀ k p, bP p ≤ k → bA p ≤ ce → iP k p n = some (bR n p)
  | 0, p, h, _ => by have := d8 p; omega
  | k + 1, p, h, hb => by
    show kP (iP k) p n = _
    have hp := dB p
    have hc : hU p.Kids (fun y0 => kO (iP k) y0 n) = some (p.Kids.any fun x => !bR n x) :=
      qs fun x hx => by
        have := dK hx
        simp only [kO]
        rw [nv n k x (by omega) (gL hx hb)]; rfl
    rw [fK]
    simp only [kP, hc, Option.bind_some, jR]
    by_cases h0 : p.Op = 0
    · simp [h0, Bool.decide_and, fL]
      all_goals (rw [Bool.eq_iff_iff]; simp)
    by_cases h1 : p.Op = 1
    · simp [h1, Bool.decide_and, fL]
      all_goals (rw [Bool.eq_iff_iff]; simp)
    by_cases h4 : p.Op = 4
    · by_cases hl : p.Kids.length = 1
      · obtain ⟨x, hx⟩ := List.length_eq_one_iff.1 hl
        have hm : x ∈ p.Kids := by rw [hx]; simp
        have := dK hm
        have e1 := uO (gL hm hb)
        have e2 := nv n k x (by omega) (gL hm hb)
        simp only [h4, hx]
        simp [bh, e1, e2]
        by_cases hf : p.F = 0
        · by_cases hn : p.N = 0
          · cases cC x <;> cases bR n x <;> simp [hf, hn]
          · simp [hf, hn]
        · simp [hf]
      · have : ¬ ((p.Kids.length : Int) = 1) := by omega
        simp [h4, hl, this]
    by_cases h67 : p.Op = 6 ∨ p.Op = 7
    · by_cases hl : 2 ≤ p.Kids.length
      · have : (p.Kids.length : Int) ≥ 2 := by omega
        rcases h67 with h6 | h7
        · by_cases hf : p.F = 0 <;> by_cases hn : p.N = 0 <;> simp [h6, hl, this, hf, hn]
        · by_cases hf : p.F = 0 <;> by_cases hn : p.N = 0 <;> simp [h7, hl, this, hf, hn]
      · have : ¬ (p.Kids.length : Int) ≥ 2 := by omega
        rcases h67 with h6 | h7
        · simp [h6, hl, this]
        · simp [h7, hl, this]
    have h6 : p.Op ≠ 6 := fun h => h67 (.inl h)
    have h7 : p.Op ≠ 7 := fun h => h67 (.inr h)
    by_cases h2 : p.Op = 2
    · simp [h2, Bool.decide_and, fL]
      all_goals (rw [Bool.eq_iff_iff]; simp)
    by_cases h5 : p.Op = 5
    · simp [h5, Bool.decide_and, fL]
      all_goals (rw [Bool.eq_iff_iff]; simp)
    by_cases h3 : p.Op = 3
    · simp [h3, Bool.decide_and, fL]
      all_goals (rw [Bool.eq_iff_iff]; simp)
    simp [h0, h1, h4, h6, h7, h2, h5, h3]
theorem nw (n : Int) : ∀ k p, bP p ≤ k → bA p ≤ ce → iR k p n = some (bR n p)
  | 0, p, h, _ => by have := d8 p; omega
  | k + 1, p, h, hb => by
    show k8 (iR k) p n = _
    have hp := dB p
    have hc : b9 (nb p n (iR k)) (bG 0 (p.Kids.length : Int)) () = some (jG (if p.Kids.any (fun x => !bR n x) then some false else none)) := by
      rw [← nu (fun x => !bR n x) false p.Kids []]
      refine lr _ _ _ fun pre x r e => ?_
      have := dK (ls e)
      simp only [nb, iW e, Option.bind_some]
      rw [nw n k x (by omega) (gL (ls e) hb)]
      simp only [Option.bind_some]
      cases bR n x <;> rfl
    rw [fK]
    simp only [k8, hc, Option.bind_some]
    by_cases h0 : p.Op = 0
    · simp [h0, Bool.decide_and, fL]
      all_goals (rw [Bool.eq_iff_iff]; simp)
    by_cases h1 : p.Op = 1
    · simp [h1, Bool.decide_and, fL]
      all_goals (rw [Bool.eq_iff_iff]; simp)
    by_cases h2 : p.Op = 2
    · simp [h2, Bool.decide_and, fL]
      all_goals (rw [Bool.eq_iff_iff]; simp)
    by_cases h3 : p.Op = 3
    · simp [h3, Bool.decide_and, fL]
      all_goals (rw [Bool.eq_iff_iff]; simp)
    by_cases h5 : p.Op = 5
    · simp [h5, Bool.decide_and, fL]
      all_goals (rw [Bool.eq_iff_iff]; simp)
    by_cases h4 : p.Op = 4
    · by_cases hl : p.Kids.length = 1
      · obtain ⟨x, hx⟩ := List.length_eq_one_iff.1 hl
        have hm : x ∈ p.Kids := by rw [hx]; simp
        have := dK hm
        have e1 := uP (gL hm hb)
        have e2 := nw n k x (by omega) (gL hm hb)
        simp only [h4, hx]
        simp [bh, e1, e2]
        by_cases hf : p.F = 0
        · by_cases hn : p.N = 0
          · cases cC x <;> cases bR n x <;> simp [hf, hn]
          · simp [hf, hn]
        · simp [hf]
      · have : ¬ ((p.Kids.length : Int) = 1) := by omega
        simp [h4, hl, this]
    by_cases h67 : p.Op = 6 ∨ p.Op = 7
    · have e67 : ((if (p.Op == 6) then some (p.Op == 6) else some (p.Op == 7)) : Option Bool) = some true := by rcases h67 with h | h <;> simp [h]
      rw [e67]
      simp only [Option.bind_some]
      by_cases hl : 2 ≤ p.Kids.length
      · have : ¬ (p.Kids.length : Int) < 2 := by omega
        by_cases hf : p.F = 0
        · by_cases hn : p.N = 0
          · rw [show (p.Op == 0) = false by simpa using h0, show (p.Op == 1) = false by simpa using h1, show (p.Op == 2) = false by simpa using h2, show (p.Op == 3) = false by simpa using h3, show (p.Op == 5) = false by simpa using h5, show (p.Op == 4) = false by simpa using h4]
            rw [show (decide ((p.Kids.length : Int) < 2)) = false by simpa using this, hf, hn, if_neg (show ¬ (p.Op = 0 ∨ p.Op = 1) by omega), if_neg h4, if_pos h67, show (decide (2 ≤ p.Kids.length ∧ (0 : Int) = 0 ∧ (0 : Int) = 0)) = true by simpa using hl]
            rw [← jR]
            generalize p.Kids.any (fun x => !bR n x) = b
            cases b <;> simp [jG]
          · simp [h0, h1, h2, h3, h5, h4, h67, hl, this, hf, hn]
        · simp [h0, h1, h2, h3, h5, h4, h67, hl, this, hf]
      · have : (p.Kids.length : Int) < 2 := by omega
        simp [h0, h1, h2, h3, h5, h4, h67, hl, this]
    have h6 : p.Op ≠ 6 := fun h => h67 (.inl h)
    have h7 : p.Op ≠ 7 := fun h => h67 (.inr h)
    simp [h0, h1, h4, h6, h7, h2, h5, h3]
theorem uQ {p : ah} (n : Int) (h : bA p ≤ ce) : mS p n = some (bR n p) := nv n _ _ (e9 h) h
theorem uR {p : ah} (n : Int) (h : bA p ≤ ce) : nc p n = some (bR n p) := nw n _ _ (e9 h) h
def ic (p : ah) : Bool := decide (bA p ≤ 300 ∧ bP p ≤ 20) && bR 4 p
theorem uS {p : ah} (h : bA p ≤ ce) : gI (dJ.mk [0, 0, 0, 0] p []) = some (if bA p ≤ 300 ∧ bP p ≤ 20 then if bR 4 p then 0 else 11 else 2) := by
  have e3 := uQ 4 h
  simp only [gI, uJ h, uK h]
  by_cases h1 : bA p ≤ 300
  · have : ¬ (bA p : Int) > 300 := by omega
    by_cases h2 : bP p ≤ 20
    · have h2' : ¬ (bP p : Int) > 20 := by omega
      cases hf : bR 4 p <;> simp [h1, h2, this, h2', e3, hf, bG, b9]
    · have h2' : (bP p : Int) > 20 := by omega
      simp [h1, h2, this, h2']
  · have : (bA p : Int) > 300 := by omega
    simp [h1, this]
theorem uT {p : ah} (h : bA p ≤ ce) : la (dJ.mk [0, 0, 0, 0] p []) = some (if bA p ≤ 300 ∧ bP p ≤ 20 then if bR 4 p then 0 else 11 else 2) := by
  have e3 := uR 4 h
  simp only [la, uL h, uM h]
  by_cases h1 : bA p ≤ 300
  · have : ¬ (bA p : Int) > 300 := by omega
    by_cases h2 : bP p ≤ 20
    · have h2' : ¬ (bP p : Int) > 20 := by omega
      cases hf : bR 4 p <;> simp [h1, h2, this, h2', e3, hf, bG, b9]
    · have h2' : (bP p : Int) > 20 := by omega
      simp [h1, h2, this, h2']
  · have : (bA p : Int) > 300 := by omega
    simp [h1, this]
theorem uU : fE 4 (0 : Int) = some [0, 0, 0, 0] := rfl
theorem uV {p : ah} (h : bA p ≤ ce) : lb p = some (ic p) := by
  simp only [lb, uU, Option.bind_some, uT h, ic]
  by_cases c : bA p ≤ 300 ∧ bP p ≤ 20
  · cases hf : bR 4 p <;> simp [c]
  · simp [c]
end Go.AM
end
