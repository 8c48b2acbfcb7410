import Derived.Test.YtnnkfanmokeiaaaAmOr
import Derived.Test.YtnnkfanmokeiaaaPmT
/-  Several texts in one. -/
section
set_option linter.unusedVariables false
set_option linter.unusedSimpArgs false
namespace Go.AM
open Go
theorem uM {P : ah → Prop} (h : ∀ p, (∀ k ∈ p.Kids, P k) → P p) : ∀ p, P p := by
  intro p
  refine ah.rec (motive_1 := P) (motive_2 := fun l => ∀ k ∈ l, P k) (fun o f n l ih => h _ ih) (fun k hk => by cases hk) (fun x l hx hl k hk => ?_) p
  rcases List.mem_cons.1 hk with rfl | hk
  · exact hx
  · exact hl k hk
noncomputable instance polDec : DecidableEq ah := fun a b => Classical.propDecidable (a = b)
mutual
def bC : ah → Nat
  | ⟨_, _, _, l⟩ => 1 + bV l
def bV : List ah → Nat
  | [] => 0
  | x :: l => bC x + bV l
end
mutual
def bW : ah → Nat
  | ⟨_, _, _, l⟩ => 1 + cO l
def cO : List ah → Nat
  | [] => 0
  | x :: l => max (bW x) (cO l)
end
mutual
def dw : ah → Bool
  | ⟨o, _, _, l⟩ => if 0 ≤ o ∧ o ≤ 4 then true else if o = 6 ∨ o = 7 then i5 l else false
def i5 : List ah → Bool
  | [] => true
  | x :: l => dw x && i5 l
end
mutual
def bX (n : Int) : ah → Bool
  | ⟨o, f, m, l⟩ =>
    if o = 0 ∨ o = 1 then decide (l.length = 0 ∧ f = 0 ∧ m = 0)
    else if o = 4 then decide (l.length = 1 ∧ f = 0 ∧ m = 0) && i5 l && i7 n l
    else if o = 6 ∨ o = 7 then decide (2 ≤ l.length ∧ f = 0 ∧ m = 0) && i7 n l
    else if o = 2 then decide (l.length = 0 ∧ 0 ≤ f ∧ f < 8)
    else if o = 5 then decide (l.length = 0 ∧ 1 ≤ f ∧ f < 8)
    else if o = 3 then decide (l.length = 0 ∧ 0 ≤ f ∧ f < n)
    else false
def i7 (n : Int) : List ah → Bool
  | [] => true
  | x :: l => bX n x && i7 n l
end
theorem i8 (p : ah) : bC p = 1 + bV p.Kids := by cases p; rw [bC]
theorem fm (p : ah) : bW p = 1 + cO p.Kids := by cases p; rw [bW]
theorem nn : ∀ l, i5 l = l.all dw
  | [] => by rw [i5]; rfl
  | x :: l => by rw [i5, nn l]; rfl
theorem qy (n : Int) : ∀ l, i7 n l = l.all (bX n)
  | [] => by rw [i7]; rfl
  | x :: l => by rw [i7, qy n l]; rfl
theorem np (p : ah) : dw p = if 0 ≤ p.Op ∧ p.Op ≤ 4 then true else if p.Op = 6 ∨ p.Op = 7 then p.Kids.all dw else false := by
  cases p; rw [dw, nn]
theorem fA (n : Int) (p : ah) : bX n p =
    if p.Op = 0 ∨ p.Op = 1 then decide (p.Kids.length = 0 ∧ p.F = 0 ∧ p.N = 0)
    else if p.Op = 4 then decide (p.Kids.length = 1 ∧ p.F = 0 ∧ p.N = 0) && p.Kids.all dw && p.Kids.all (bX n)
    else if p.Op = 6 ∨ p.Op = 7 then decide (2 ≤ p.Kids.length ∧ p.F = 0 ∧ p.N = 0) && p.Kids.all (bX n)
    else if p.Op = 2 then decide (p.Kids.length = 0 ∧ 0 ≤ p.F ∧ p.F < 8)
    else if p.Op = 5 then decide (p.Kids.length = 0 ∧ 1 ≤ p.F ∧ p.F < 8)
    else if p.Op = 3 then decide (p.Kids.length = 0 ∧ 0 ≤ p.F ∧ p.F < n)
    else false := by
  cases p; rw [bX, qy, nn]
theorem gB : ∀ l m, bV (l ++ m) = bV l + bV m
  | [], m => by simp [bV]
  | x :: l, m => by simp only [List.cons_append, bV, gB l m]; omega
theorem qz : ∀ l m, cO (l ++ m) = max (cO l) (cO m)
  | [], m => by simp [cO]
  | x :: l, m => by simp only [List.cons_append, cO, qz l m]; omega
theorem lu {x : ah} : ∀ {l : List ah}, x ∈ l → bC x ≤ bV l
  | y :: l, h => by
    rw [bV]
    rcases List.mem_cons.1 h with rfl | h
    · omega
    · have := lu h; omega
theorem fp {x : ah} : ∀ {l : List ah}, x ∈ l → bW x ≤ cO l
  | y :: l, h => by
    rw [cO]
    rcases List.mem_cons.1 h with rfl | h
    · omega
    · have := fp h; omega
theorem uN (p : ah) : 1 ≤ bC p := by rw [i8]; omega
theorem gC (p : ah) : 1 ≤ bW p := by rw [fm]; omega
theorem nt : ∀ l : List ah, l.length ≤ bV l
  | [] => by simp [bV]
  | x :: l => by
    have := nt l; have := uN x
    rw [bV, List.length_cons]; omega
theorem qA : ∀ l : List ah, (∀ x ∈ l, bW x ≤ bC x) → cO l ≤ bV l
  | [], _ => by simp [cO]
  | x :: l, h => by
    have h1 := h x (by simp)
    have h2 := qA l fun y hy => h y (by simp [hy])
    rw [cO, bV]; omega
theorem qB (p : ah) : bW p ≤ bC p := by
  refine uM (P := fun p => bW p ≤ bC p) (fun p ih => ?_) p
  have := qA p.Kids ih
  rw [fm, i8]; omega
theorem qC {α : Type} {l : List α} {i : Nat} {x : α} (h : l[i]? = some x) : l = l.take i ++ x :: l.drop (i + 1) := by
  have hi := (List.getElem?_eq_some_iff.1 h).1
  have hx : l[i] = x := (List.getElem?_eq_some_iff.1 h).2
  rw [← hx, List.getElem_cons_drop, List.take_append_drop]
theorem uO {l : List ah} {i : Nat} {x : ah} (h : l[i]? = some x) : bV (l.take i) + bC x ≤ bV l := by
  have e := congrArg bV (qC h)
  rw [gB, bV] at e
  omega
def ck : Nat := 100000
theorem nu : ∀ k p, bW p ≤ k → bC p ≤ ck → gS k p = some (bC p : Int)
  | 0, p, h, _ => by have := gC p; omega
  | k + 1, p, h, hb => by
    show jT (gS k) p = _
    have hp := fm p; have hs := i8 p
    unfold ck at hb
    obtain ⟨s', e, hP⟩ := mK (mQ p (gS k)) p.Kids (fun l s => s = 1 + (bV l : Int)) 1 (by simp [bV]) (fun i x s hx hP => by
      have hm := dj hx
      have h1 := fp hm; have h2 := lu hm; have h3 := uO hx
      refine ⟨1 + (bV (p.Kids.take i ++ [x]) : Int), ?_, rfl⟩
      simp only [mQ, fk, hx, Option.bind_some]
      rw [nu k x (by omega) (by unfold ck; omega)]
      simp only [Option.bind_some]
      rw [hP, iS (by omega) (by omega), gB]
      simp [bV]; omega)
    simp only [jT, e, Option.bind_some]
    rw [hP, hs]; push_cast; rfl
theorem nv : ∀ k p, bW p ≤ k → bC p ≤ ck → gT k p = some (bW p : Int)
  | 0, p, h, _ => by have := gC p; omega
  | k + 1, p, h, hb => by
    show jU (gT k) p = _
    have hp := fm p; have hs := i8 p
    unfold ck at hb
    have hd := qB p
    obtain ⟨s', e, hP⟩ := mK (mS p (gT k)) p.Kids (fun l s => s = (cO l : Int)) 0 (by simp [cO]) (fun i x s hx hP => by
      have hm := dj hx
      have h1 := fp hm; have h2 := lu hm
      refine ⟨(cO (p.Kids.take i ++ [x]) : Int), ?_, rfl⟩
      simp only [mS, fk, hx, Option.bind_some]
      rw [nv k x (by omega) (by unfold ck; omega)]
      simp only [Option.bind_some]
      rw [hP, qz]
      simp only [ic, cO]
      split <;> simp <;> omega)
    simp only [jU, e, Option.bind_some]
    rw [hP, hp, iS (by omega) (by omega)]; push_cast; rw [Int.add_comm]
theorem qD : ∀ k, jY k = gS k
  | 0 => rfl
  | k + 1 => by show nb (jY k) = jT (gS k); rw [qD k]; rfl
theorem qE : ∀ k, j0 k = gT k
  | 0 => rfl
  | k + 1 => by show nc (j0 k) = jU (gT k); rw [qE k]; rfl
theorem gD {p : ah} (h : bC p ≤ ck) : bW p ≤ cL := by
  have := qB p
  unfold ck at h
  obtain ⟨m, hm⟩ := uA 1000000 (by omega)
  omega
theorem uP {p : ah} (h : bC p ≤ ck) : mR p = some (bC p : Int) := nu _ _ (gD h) h
theorem uQ {p : ah} (h : bC p ≤ ck) : mT p = some (bW p : Int) := nv _ _ (gD h) h
theorem qF {p : ah} (h : bC p ≤ ck) : jZ p = some (bC p : Int) := by unfold jZ; rw [qD]; exact nu _ _ (gD h) h
theorem qH {p : ah} (h : bC p ≤ ck) : j1 p = some (bW p : Int) := by unfold j1; rw [qE]; exact nv _ _ (gD h) h
def eV {α β : Type} (step : List α → α → List α → Option β) : List α → List α → Option β
  | _, [] => none
  | pre, x :: r => match step pre x r with
    | some b => some b
    | none => eV step (pre ++ [x]) r
theorem qI {α β : Type} (f : Int → Unit → Option (Br Unit β)) (step : List α → α → List α → Option β) {l : List α} (h : ∀ pre x r, l = pre ++ x :: r → f (pre.length : Int) () = some (kR (step pre x r))) :
    ∀ suf pre, l = pre ++ suf → ca f (bJ (pre.length : Int) (l.length : Int)) () = some (jS (eV step pre suf))
  | [], pre, e => by
    have : l.length = pre.length := by rw [e]; simp
    rw [this, mI]; rfl
  | x :: r, pre, e => by
    have hl : l.length = pre.length + (r.length + 1) := by rw [e]; simp
    rw [hl, mH]
    simp only [ca]
    rw [h pre x r e]
    simp only [Option.bind_some, eV]
    cases step pre x r with
    | some b => rfl
    | none =>
      show ca f _ () = _
      have := qI f step h r (pre ++ [x]) (by rw [e]; simp)
      rw [hl] at this
      simpa using this
theorem lw {α β : Type} (f : Int → Unit → Option (Br Unit β)) (step : List α → α → List α → Option β) (l : List α) (h : ∀ pre x r, l = pre ++ x :: r → f (pre.length : Int) () = some (kR (step pre x r))) :
    ca f (bJ 0 (l.length : Int)) () = some (jS (eV step [] l)) := by
  have := qI f step h l [] rfl
  simpa using this
theorem nw {α β : Type} (p : α → Bool) (b : β) : ∀ (suf pre : List α), eV (fun _ x _ => if p x then some b else none) pre suf = if suf.any p then some b else none
  | [], pre => rfl
  | x :: r, pre => by
    simp only [eV, List.any_cons]
    by_cases h : p x = true
    · simp [h]
    · simp [h, nw p b r]
theorem i9 {α : Type} {l pre r : List α} {x : α} (e : l = pre ++ x :: r) : bv l (pre.length : Int) = some x := by
  rw [fk, e]; simp
theorem lz {α : Type} {l pre r : List α} {x : α} (e : l = pre ++ x :: r) : x ∈ l := by rw [e]; simp
theorem uR {l : List ah} {f : ah → Option Bool} {p : ah → Bool} (h : ∀ x ∈ l, f x = some (p x)) :
    kU l f = some (match eV (fun pre x _ => if p x then some (pre.length : Int) else none) [] l with | some i => i | none => -1) := by
  unfold kU
  rw [lw _ (fun pre x _ => if p x then some (pre.length : Int) else none) l (fun pre x r e => by
    simp only [qu, i9 e, Option.bind_some, h x (lz e)]
    by_cases c : p x = true <;> simp [c, kR])]
  simp only [Option.bind_some]
  cases eV (fun pre x _ => if p x then some (pre.length : Int) else none) [] l <;> rfl
theorem qJ (p : ah → Bool) : ∀ (suf pre : List ah), (match eV (fun pre x _ => if p x then some (pre.length : Int) else none) pre suf with | some i => decide (i ≥ 0) | none => false) = suf.any p
  | [], pre => rfl
  | x :: r, pre => by
    simp only [eV, List.any_cons]
    by_cases h : p x = true
    · simp [h]
    · simp [h, qJ p r]
theorem qK {l : List ah} {f : ah → Option Bool} {p : ah → Bool} (h : ∀ x ∈ l, f x = some (p x)) : il l f = some (l.any p) := by
  unfold il
  rw [uR h, Option.bind_some, ← qJ p l []]
  cases eV (fun pre x _ => if p x then some (pre.length : Int) else none) [] l <;> simp
end Go.AM
end
section
set_option linter.unusedVariables false
set_option linter.unusedSimpArgs false
namespace Go.AM
open Go
theorem j3 {α : Type} (p : α → Bool) : ∀ l : List α, (!(l.any fun x => !p x)) = l.all p
  | [] => rfl
  | x :: l => by simp only [List.any_cons, List.all_cons, Bool.not_or, Bool.not_not, j3 p l]
theorem qL : ∀ k p, bW p ≤ k → iV k p = some (dw p)
  | 0, p, h => by have := gC p; omega
  | k + 1, p, h => by
    show kW (iV k) p = _
    have hp := fm p
    have hc : il p.Kids (fun y0 => kV (iV k) y0) = some (p.Kids.any fun x => !dw x) :=
      qK fun x hx => by
        have := fp hx
        simp only [kV]
        rw [qL k x (by omega)]; rfl
    rw [np]
    simp only [kW, hc, Option.bind_some, j3]
    by_cases h0 : p.Op = 0
    · simp [h0]
    by_cases h1 : p.Op = 1
    · simp [h1]
    by_cases h2 : p.Op = 2
    · simp [h2]
    by_cases h3 : p.Op = 3
    · simp [h3]
    by_cases h4 : p.Op = 4
    · simp [h4]
    by_cases h6 : p.Op = 6
    · simp [h6]
    by_cases h7 : p.Op = 7
    · simp [h7]
    have : ¬ (0 ≤ p.Op ∧ p.Op ≤ 4) := by omega
    simp [h0, h1, h2, h3, h4, h6, h7, this]
theorem qM : ∀ k p, bW p ≤ k → iY k p = some (dw p)
  | 0, p, h => by have := gC p; omega
  | k + 1, p, h => by
    show lh (iY k) p = _
    have hp := fm p
    have hc : ca (nd p (iY k)) (bJ 0 (p.Kids.length : Int)) () = some (jS (if p.Kids.any (fun x => !dw x) then some (Sum.inr false) else none)) := by
      rw [← nw (fun x => !dw x) (Sum.inr false) p.Kids []]
      refine lw _ _ _ fun pre x r e => ?_
      have := fp (lz e)
      simp only [nd, i9 e, Option.bind_some]
      rw [qM k x (by omega)]
      simp only [Option.bind_some]
      cases dw x <;> rfl
    rw [np]
    simp only [lh, hc, Option.bind_some, ← j3]
    by_cases h5 : p.Op = 5
    · simp [h5]
    by_cases hn : p.Op < 0
    · have h6 : p.Op ≠ 6 := by omega
      have h7 : p.Op ≠ 7 := by omega
      have : ¬ (0 ≤ p.Op ∧ p.Op ≤ 4) := by omega
      simp [h5, hn, h6, h7, this]
    by_cases hb : p.Op > 7
    · have h6 : p.Op ≠ 6 := by omega
      have h7 : p.Op ≠ 7 := by omega
      have : ¬ (0 ≤ p.Op ∧ p.Op ≤ 4) := by omega
      simp [h5, hn, hb, h6, h7, this]
    have e5 : ((p.Op == 5) || ((decide (p.Op < 0)) || (decide (p.Op > 7)))) = false := by simp [h5, hn, hb]
    rw [e5]
    by_cases h67 : p.Op = 6 ∨ p.Op = 7
    · have e6 : ((p.Op == 6) || (p.Op == 7)) = true := by simpa using h67
      have : ¬ (0 ≤ p.Op ∧ p.Op ≤ 4) := by omega
      rw [e6, if_neg this, if_pos h67]
      cases p.Kids.any (fun x => !dw x) <;> rfl
    · have e6 : ((p.Op == 6) || (p.Op == 7)) = false := by simpa using h67
      have : (0 ≤ p.Op ∧ p.Op ≤ 4) := by omega
      rw [e6, if_pos this]
      rfl
theorem uS {p : ah} (h : bC p ≤ ck) : mU p = some (dw p) := qL _ _ (gD h)
theorem uT {p : ah} (h : bC p ≤ ck) : nf p = some (dw p) := qM _ _ (gD h)
theorem ja {p k : ah} (hk : k ∈ p.Kids) (h : bC p ≤ ck) : bC k ≤ ck := by
  have := lu hk; rw [i8] at h; omega
theorem fO {l : List ah} : ((l.length : Int) == 0) = decide (l.length = 0) := by
  rw [Bool.eq_iff_iff]; simp
theorem ny (n : Int) : ∀ k p, bW p ≤ k → bC p ≤ ck → iW k p n = some (bX n p)
  | 0, p, h, _ => by have := gC p; omega
  | k + 1, p, h, hb => by
    show kY (iW k) p n = _
    have hp := fm p
    have hc : il p.Kids (fun y0 => kX (iW k) y0 n) = some (p.Kids.any fun x => !bX n x) :=
      qK fun x hx => by
        have := fp hx
        simp only [kX]
        rw [ny n k x (by omega) (ja hx hb)]; rfl
    rw [fA]
    simp only [kY, hc, Option.bind_some, j3]
    by_cases h0 : p.Op = 0
    · simp [h0, Bool.decide_and, fO]
      all_goals (rw [Bool.eq_iff_iff]; simp)
    by_cases h1 : p.Op = 1
    · simp [h1, Bool.decide_and, fO]
      all_goals (rw [Bool.eq_iff_iff]; simp)
    by_cases h4 : p.Op = 4
    · by_cases hl : p.Kids.length = 1
      · obtain ⟨x, hx⟩ := List.length_eq_one_iff.1 hl
        have hm : x ∈ p.Kids := by rw [hx]; simp
        have := fp hm
        have e1 := uS (ja hm hb)
        have e2 := ny n k x (by omega) (ja hm hb)
        simp only [h4, hx]
        simp [bv, e1, e2]
        by_cases hf : p.F = 0
        · by_cases hn : p.N = 0
          · cases dw x <;> cases bX n x <;> simp [hf, hn]
          · simp [hf, hn]
        · simp [hf]
      · have : ¬ ((p.Kids.length : Int) = 1) := by omega
        simp [h4, hl, this]
    by_cases h67 : p.Op = 6 ∨ p.Op = 7
    · by_cases hl : 2 ≤ p.Kids.length
      · have : (p.Kids.length : Int) ≥ 2 := by omega
        rcases h67 with h6 | h7
        · by_cases hf : p.F = 0 <;> by_cases hn : p.N = 0 <;> simp [h6, hl, this, hf, hn]
        · by_cases hf : p.F = 0 <;> by_cases hn : p.N = 0 <;> simp [h7, hl, this, hf, hn]
      · have : ¬ (p.Kids.length : Int) ≥ 2 := by omega
        rcases h67 with h6 | h7
        · simp [h6, hl, this]
        · simp [h7, hl, this]
    have h6 : p.Op ≠ 6 := fun h => h67 (.inl h)
    have h7 : p.Op ≠ 7 := fun h => h67 (.inr h)
    by_cases h2 : p.Op = 2
    · simp [h2, Bool.decide_and, fO]
      all_goals (rw [Bool.eq_iff_iff]; simp)
    by_cases h5 : p.Op = 5
    · simp [h5, Bool.decide_and, fO]
      all_goals (rw [Bool.eq_iff_iff]; simp)
    by_cases h3 : p.Op = 3
    · simp [h3, Bool.decide_and, fO]
      all_goals (rw [Bool.eq_iff_iff]; simp)
    simp [h0, h1, h4, h6, h7, h2, h5, h3]
theorem nz (n : Int) : ∀ k p, bW p ≤ k → bC p ≤ ck → iZ k p n = some (bX n p)
  | 0, p, h, _ => by have := gC p; omega
  | k + 1, p, h, hb => by
    show lj (iZ k) p n = _
    have hp := fm p
    have hc : ca (nh p n (iZ k)) (bJ 0 (p.Kids.length : Int)) () = some (jS (if p.Kids.any (fun x => !bX n x) then some false else none)) := by
      rw [← nw (fun x => !bX n x) false p.Kids []]
      refine lw _ _ _ fun pre x r e => ?_
      have := fp (lz e)
      simp only [nh, i9 e, Option.bind_some]
      rw [nz n k x (by omega) (ja (lz e) hb)]
      simp only [Option.bind_some]
      cases bX n x <;> rfl
    rw [fA]
    simp only [lj, hc, Option.bind_some]
    by_cases h0 : p.Op = 0
    · simp [h0, Bool.decide_and, fO]
      all_goals (rw [Bool.eq_iff_iff]; simp)
    by_cases h1 : p.Op = 1
    · simp [h1, Bool.decide_and, fO]
      all_goals (rw [Bool.eq_iff_iff]; simp)
    by_cases h2 : p.Op = 2
    · simp [h2, Bool.decide_and, fO]
      all_goals (rw [Bool.eq_iff_iff]; simp)
    by_cases h3 : p.Op = 3
    · simp [h3, Bool.decide_and, fO]
      all_goals (rw [Bool.eq_iff_iff]; simp)
    by_cases h5 : p.Op = 5
    · simp [h5, Bool.decide_and, fO]
      all_goals (rw [Bool.eq_iff_iff]; simp)
    by_cases h4 : p.Op = 4
    · by_cases hl : p.Kids.length = 1
      · obtain ⟨x, hx⟩ := List.length_eq_one_iff.1 hl
        have hm : x ∈ p.Kids := by rw [hx]; simp
        have := fp hm
        have e1 := uT (ja hm hb)
        have e2 := nz n k x (by omega) (ja hm hb)
        simp only [h4, hx]
        simp [bv, e1, e2]
        by_cases hf : p.F = 0
        · by_cases hn : p.N = 0
          · cases dw x <;> cases bX n x <;> simp [hf, hn]
          · simp [hf, hn]
        · simp [hf]
      · have : ¬ ((p.Kids.length : Int) = 1) := by omega
        simp [h4, hl, this]
    by_cases h67 : p.Op = 6 ∨ p.Op = 7
    · have e67 : ((if (p.Op == 6) then some (p.Op == 6) else some (p.Op == 7)) : Option Bool) = some true := by rcases h67 with h | h <;> simp [h]
      rw [e67]
      simp only [Option.bind_some]
      by_cases hl : 2 ≤ p.Kids.length
      · have : ¬ (p.Kids.length : Int) < 2 := by omega
        by_cases hf : p.F = 0
        · by_cases hn : p.N = 0
          · rw [show (p.Op == 0) = false by simpa using h0, show (p.Op == 1) = false by simpa using h1, show (p.Op == 2) = false by simpa using h2, show (p.Op == 3) = false by simpa using h3, show (p.Op == 5) = false by simpa using h5, show (p.Op == 4) = false by simpa using h4]
            rw [show (decide ((p.Kids.length : Int) < 2)) = false by simpa using this, hf, hn, if_neg (show ¬ (p.Op = 0 ∨ p.Op = 1) by omega), if_neg h4, if_pos h67, show (decide (2 ≤ p.Kids.length ∧ (0 : Int) = 0 ∧ (0 : Int) = 0)) = true by simpa using hl]
            rw [← j3]
            generalize p.Kids.any (fun x => !bX n x) = b
            cases b <;> simp [jS]
          · simp [h0, h1, h2, h3, h5, h4, h67, hl, this, hf, hn]
        · simp [h0, h1, h2, h3, h5, h4, h67, hl, this, hf]
      · have : (p.Kids.length : Int) < 2 := by omega
        simp [h0, h1, h2, h3, h5, h4, h67, hl, this]
    have h6 : p.Op ≠ 6 := fun h => h67 (.inl h)
    have h7 : p.Op ≠ 7 := fun h => h67 (.inr h)
    simp [h0, h1, h4, h6, h7, h2, h5, h3]
theorem uU {p : ah} (n : Int) (h : bC p ≤ ck) : mV p n = some (bX n p) := ny n _ _ (gD h) h
theorem uV {p : ah} (n : Int) (h : bC p ≤ ck) : ni p n = some (bX n p) := nz n _ _ (gD h) h
def gE (p : ah) : Bool := decide (bC p ≤ 300 ∧ bW p ≤ 20) && bX 4 p
theorem uW {p : ah} (h : bC p ≤ ck) : gU (dL.mk [0, 0, 0, 0] p []) = some (if bC p ≤ 300 ∧ bW p ≤ 20 then if bX 4 p then 0 else 11 else 2) := by
  have e3 := uU 4 h
  simp only [gU, uP h, uQ h]
  by_cases h1 : bC p ≤ 300
  · have : ¬ (bC p : Int) > 300 := by omega
    by_cases h2 : bW p ≤ 20
    · have h2' : ¬ (bW p : Int) > 20 := by omega
      cases hf : bX 4 p <;> simp [h1, h2, this, h2', e3, hf, bJ, ca]
    · have h2' : (bW p : Int) > 20 := by omega
      simp [h1, h2, this, h2']
  · have : (bC p : Int) > 300 := by omega
    simp [h1, this]
theorem uX {p : ah} (h : bC p ≤ ck) : lm (dL.mk [0, 0, 0, 0] p []) = some (if bC p ≤ 300 ∧ bW p ≤ 20 then if bX 4 p then 0 else 11 else 2) := by
  have e3 := uV 4 h
  simp only [lm, qF h, qH h]
  by_cases h1 : bC p ≤ 300
  · have : ¬ (bC p : Int) > 300 := by omega
    by_cases h2 : bW p ≤ 20
    · have h2' : ¬ (bW p : Int) > 20 := by omega
      cases hf : bX 4 p <;> simp [h1, h2, this, h2', e3, hf, bJ, ca]
    · have h2' : (bW p : Int) > 20 := by omega
      simp [h1, h2, this, h2']
  · have : (bC p : Int) > 300 := by omega
    simp [h1, this]
theorem uY : fM 4 (0 : Int) = some [0, 0, 0, 0] := rfl
theorem uZ {p : ah} (h : bC p ≤ ck) : lr p = some (gE p) := by
  simp only [lr, uY, Option.bind_some, uX h, gE]
  by_cases c : bC p ≤ 300 ∧ bW p ≤ 20
  · cases hf : bX 4 p <;> simp [c]
  · simp [c]
end Go.AM
end
