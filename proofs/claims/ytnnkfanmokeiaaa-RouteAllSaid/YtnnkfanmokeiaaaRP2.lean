import Derived.Test.YtnnkfanmokeiaaaAmPv
import Derived.Test.YtnnkfanmokeiaaaRtT
/-  Several texts in one. -/
section
set_option linter.unusedVariables false
set_option linter.unusedSimpArgs false
namespace Go.AM
open Go
theorem z8 {P : al → Prop} (h : ∀ p, (∀ k ∈ p.Kids, P k) → P p) : ∀ p, P p := by
  intro p
  refine al.rec (motive_1 := P) (motive_2 := fun l => ∀ k ∈ l, P k) (fun o f n l ih => h _ ih) (fun k hk => by cases hk) (fun x l hx hl k hk => ?_) p
  rcases List.mem_cons.1 hk with rfl | hk
  · exact hx
  · exact hl k hk
noncomputable instance polDec : DecidableEq al := fun a b => Classical.propDecidable (a = b)
mutual
def cE : al → Nat
  | ⟨_, _, _, l⟩ => 1 + cR l
def cR : List al → Nat
  | [] => 0
  | x :: l => cE x + cR l
end
mutual
def dD : al → Nat
  | ⟨_, _, _, l⟩ => 1 + fm l
def fm : List al → Nat
  | [] => 0
  | x :: l => max (dD x) (fm l)
end
mutual
def eS : al → Bool
  | ⟨o, _, _, l⟩ => if 0 ≤ o ∧ o ≤ 4 then true else if o = 6 ∨ o = 7 then lr l else false
def lr : List al → Bool
  | [] => true
  | x :: l => eS x && lr l
end
mutual
def cL (n : Int) : al → Bool
  | ⟨o, f, m, l⟩ =>
    if o = 0 ∨ o = 1 then decide (l.length = 0 ∧ f = 0 ∧ m = 0)
    else if o = 4 then decide (l.length = 1 ∧ f = 0 ∧ m = 0) && lr l && ls n l
    else if o = 6 ∨ o = 7 then decide (2 ≤ l.length ∧ f = 0 ∧ m = 0) && ls n l
    else if o = 2 then decide (l.length = 0 ∧ 0 ≤ f ∧ f < 8)
    else if o = 5 then decide (l.length = 0 ∧ 1 ≤ f ∧ f < 8)
    else if o = 3 then decide (l.length = 0 ∧ 0 ≤ f ∧ f < n)
    else false
def ls (n : Int) : List al → Bool
  | [] => true
  | x :: l => cL n x && ls n l
end
theorem gS (p : al) : cE p = 1 + cR p.Kids := by cases p; rw [cE]
theorem jz (p : al) : dD p = 1 + fm p.Kids := by cases p; rw [dD]
theorem qZ : ∀ l, lr l = l.all eS
  | [] => by rw [lr]; rfl
  | x :: l => by rw [lr, qZ l]; rfl
theorem uL (n : Int) : ∀ l, ls n l = l.all (cL n)
  | [] => by rw [ls]; rfl
  | x :: l => by rw [ls, uL n l]; rfl
theorem lu (p : al) : eS p = if 0 ≤ p.Op ∧ p.Op ≤ 4 then true else if p.Op = 6 ∨ p.Op = 7 then p.Kids.all eS else false := by
  cases p; rw [eS, qZ]
theorem f4 (n : Int) (p : al) : cL n p =
    if p.Op = 0 ∨ p.Op = 1 then decide (p.Kids.length = 0 ∧ p.F = 0 ∧ p.N = 0)
    else if p.Op = 4 then decide (p.Kids.length = 1 ∧ p.F = 0 ∧ p.N = 0) && p.Kids.all eS && p.Kids.all (cL n)
    else if p.Op = 6 ∨ p.Op = 7 then decide (2 ≤ p.Kids.length ∧ p.F = 0 ∧ p.N = 0) && p.Kids.all (cL n)
    else if p.Op = 2 then decide (p.Kids.length = 0 ∧ 0 ≤ p.F ∧ p.F < 8)
    else if p.Op = 5 then decide (p.Kids.length = 0 ∧ 1 ≤ p.F ∧ p.F < 8)
    else if p.Op = 3 then decide (p.Kids.length = 0 ∧ 0 ≤ p.F ∧ p.F < n)
    else false := by
  cases p; rw [cL, uL, qZ]
theorem oO : ∀ l m, cR (l ++ m) = cR l + cR m
  | [], m => by simp [cR]
  | x :: l, m => by simp only [List.cons_append, cR, oO l m]; omega
theorem uM : ∀ l m, fm (l ++ m) = max (fm l) (fm m)
  | [], m => by simp [fm]
  | x :: l, m => by simp only [List.cons_append, fm, uM l m]; omega
theorem oP {x : al} : ∀ {l : List al}, x ∈ l → cE x ≤ cR l
  | y :: l, h => by
    rw [cR]
    rcases List.mem_cons.1 h with rfl | h
    · omega
    · have := oP h; omega
theorem jA {x : al} : ∀ {l : List al}, x ∈ l → dD x ≤ fm l
  | y :: l, h => by
    rw [fm]
    rcases List.mem_cons.1 h with rfl | h
    · omega
    · have := jA h; omega
theorem lw (p : al) : 1 ≤ dD p := by rw [jz]; omega
theorem uN : ∀ l : List al, (∀ x ∈ l, dD x ≤ cE x) → fm l ≤ cR l
  | [], _ => by simp [fm]
  | x :: l, h => by
    have h1 := h x (by simp)
    have h2 := uN l fun y hy => h y (by simp [hy])
    rw [fm, cR]; omega
theorem uO (p : al) : dD p ≤ cE p := by
  refine z8 (P := fun p => dD p ≤ cE p) (fun p ih => ?_) p
  have := uN p.Kids ih
  rw [jz, gS]; omega
theorem q6 {α : Type} {l : List α} {i : Nat} {x : α} (h : l[i]? = some x) : l = l.take i ++ x :: l.drop (i + 1) := by
  have hi := (List.getElem?_eq_some_iff.1 h).1
  have hx : l[i] = x := (List.getElem?_eq_some_iff.1 h).2
  rw [← hx, List.getElem_cons_drop, List.take_append_drop]
theorem Aa {l : List al} {i : Nat} {x : al} (h : l[i]? = some x) : cR (l.take i) + cE x ≤ cR l := by
  have e := congrArg cR (q6 h)
  rw [oO, cR] at e
  omega
def df : Nat := 100000
theorem q7 : ∀ k p, dD p ≤ k → cE p ≤ df → js k p = some (cE p : Int)
  | 0, p, h, _ => by have := lw p; omega
  | k + 1, p, h, hb => by
    show mD (js k) p = _
    have hp := jz p; have hs := gS p
    unfold df at hb
    obtain ⟨s', e, hP⟩ := jq (qA p (js k)) p.Kids (fun l s => s = 1 + (cR l : Int)) 1 (by simp [cR]) (fun i x s hx hP => by
      have hm := c7 hx
      have h1 := jA hm; have h2 := oP hm; have h3 := Aa hx
      refine ⟨1 + (cR (p.Kids.take i ++ [x]) : Int), ?_, rfl⟩
      simp only [qA, cd, hx, Option.bind_some]
      rw [q7 k x (by omega) (by unfold df; omega)]
      simp only [Option.bind_some]
      rw [hP, uh (by omega) (by omega), oO]
      simp [cR]; omega)
    simp only [mD, e, Option.bind_some]
    rw [hP, hs]; push_cast; rfl
theorem q8 : ∀ k p, dD p ≤ k → cE p ≤ df → jt k p = some (dD p : Int)
  | 0, p, h, _ => by have := lw p; omega
  | k + 1, p, h, hb => by
    show mE (jt k) p = _
    have hp := jz p; have hs := gS p
    unfold df at hb
    have hd := uO p
    obtain ⟨s', e, hP⟩ := jq (qC p (jt k)) p.Kids (fun l s => s = (fm l : Int)) 0 (by simp [fm]) (fun i x s hx hP => by
      have hm := c7 hx
      have h1 := jA hm; have h2 := oP hm
      refine ⟨(fm (p.Kids.take i ++ [x]) : Int), ?_, rfl⟩
      simp only [qC, cd, hx, Option.bind_some]
      rw [q8 k x (by omega) (by unfold df; omega)]
      simp only [Option.bind_some]
      rw [hP, uM]
      simp only [fX, fm]
      split <;> simp <;> omega)
    simp only [mE, e, Option.bind_some]
    rw [hP, hp, uh (by omega) (by omega)]; push_cast; rw [Int.add_comm]
theorem uP : ∀ k, mG k = js k
  | 0 => rfl
  | k + 1 => by show qH (mG k) = mD (js k); rw [uP k]; rfl
theorem uQ : ∀ k, mH k = jt k
  | 0 => rfl
  | k + 1 => by show qI (mH k) = mE (jt k); rw [uQ k]; rfl
theorem ko {p : al} (h : cE p ≤ df) : dD p ≤ c9 := by
  have := uO p
  unfold df at h
  obtain ⟨m, hm⟩ := mr 1000000 (by omega)
  omega
theorem Ab {p : al} (h : cE p ≤ df) : qB p = some (cE p : Int) := q7 _ _ (ko h) h
theorem Ac {p : al} (h : cE p ≤ df) : qD p = some (dD p : Int) := q8 _ _ (ko h) h
theorem Ad {p : al} (h : cE p ≤ df) : oi p = some (cE p : Int) := by unfold oi; rw [uP]; exact q7 _ _ (ko h) h
theorem Ae {p : al} (h : cE p ≤ df) : om p = some (dD p : Int) := by unfold om; rw [uQ]; exact q8 _ _ (ko h) h
def lz {α β : Type} (step : List α → α → List α → Option β) : List α → List α → Option β
  | _, [] => none
  | pre, x :: r => match step pre x r with
    | some b => some b
    | none => lz step (pre ++ [x]) r
theorem uR {α β : Type} (f : Int → Unit → Option (Br Unit β)) (step : List α → α → List α → Option β) {l : List α} (h : ∀ pre x r, l = pre ++ x :: r → f (pre.length : Int) () = some (iC (step pre x r))) :
    ∀ suf pre, l = pre ++ suf → b6 f (bA (pre.length : Int) (l.length : Int)) () = some (fL (lz step pre suf))
  | [], pre, e => by
    have : l.length = pre.length := by rw [e]; simp
    rw [this, k7]; rfl
  | x :: r, pre, e => by
    have hl : l.length = pre.length + (r.length + 1) := by rw [e]; simp
    rw [hl, k6]
    simp only [b6]
    rw [h pre x r e]
    simp only [Option.bind_some, lz]
    cases step pre x r with
    | some b => rfl
    | none =>
      show b6 f _ () = _
      have := uR f step h r (pre ++ [x]) (by rw [e]; simp)
      rw [hl] at this
      simpa using this
theorem uS {α β : Type} (f : Int → Unit → Option (Br Unit β)) (step : List α → α → List α → Option β) (l : List α) (h : ∀ pre x r, l = pre ++ x :: r → f (pre.length : Int) () = some (iC (step pre x r))) :
    b6 f (bA 0 (l.length : Int)) () = some (fL (lz step [] l)) := by
  have := uR f step h l [] rfl
  simpa using this
theorem ra {α β : Type} (p : α → Bool) (b : β) : ∀ (suf pre : List α), lz (fun _ x _ => if p x then some b else none) pre suf = if suf.any p then some b else none
  | [], pre => rfl
  | x :: r, pre => by
    simp only [lz, List.any_cons]
    by_cases h : p x = true
    · simp [h]
    · simp [h, ra p b r]
theorem uT {α : Type} {l pre r : List α} {x : α} (e : l = pre ++ x :: r) : be l (pre.length : Int) = some x := by
  rw [cd, e]; simp
theorem rb {α : Type} {l pre r : List α} {x : α} (e : l = pre ++ x :: r) : x ∈ l := by rw [e]; simp
end Go.AM
end
section
set_option linter.unusedVariables false
set_option linter.unusedSimpArgs false
namespace Go.AM
open Go
theorem rc {α : Type} (p : α → Bool) : ∀ l : List α, (!(l.any fun x => !p x)) = l.all p
  | [] => rfl
  | x :: l => by simp only [List.any_cons, List.all_cons, Bool.not_or, Bool.not_not, rc p l]
theorem uU : ∀ k p, dD p ≤ k → lg k p = some (eS p)
  | 0, p, h => by have := lw p; omega
  | k + 1, p, h => by
    show ot (lg k) p = _
    have hp := jz p
    have hc : b6 (qJ p (lg k)) (bA 0 (p.Kids.length : Int)) () = some (fL (if p.Kids.any (fun x => !eS x) then some (Sum.inr false) else none)) := by
      rw [← ra (fun x => !eS x) (Sum.inr false) p.Kids []]
      refine uS _ _ _ fun pre x r e => ?_
      have := jA (rb e)
      simp only [qJ, uT e, Option.bind_some]
      rw [uU k x (by omega)]
      simp only [Option.bind_some]
      cases eS x <;> rfl
    rw [lu]
    simp only [ot, hc, Option.bind_some, ← rc]
    by_cases h5 : p.Op = 5
    · simp [h5]
    by_cases hn : p.Op < 0
    · have h6 : p.Op ≠ 6 := by omega
      have h7 : p.Op ≠ 7 := by omega
      have : ¬ (0 ≤ p.Op ∧ p.Op ≤ 4) := by omega
      simp [h5, hn, h6, h7, this]
    by_cases hb : p.Op > 7
    · have h6 : p.Op ≠ 6 := by omega
      have h7 : p.Op ≠ 7 := by omega
      have : ¬ (0 ≤ p.Op ∧ p.Op ≤ 4) := by omega
      simp [h5, hn, hb, h6, h7, this]
    have e5 : ((p.Op == 5) || ((decide (p.Op < 0)) || (decide (p.Op > 7)))) = false := by simp [h5, hn, hb]
    rw [e5]
    by_cases h67 : p.Op = 6 ∨ p.Op = 7
    · have e6 : ((p.Op == 6) || (p.Op == 7)) = true := by simpa using h67
      have : ¬ (0 ≤ p.Op ∧ p.Op ≤ 4) := by omega
      rw [e6, if_neg this, if_pos h67]
      cases p.Kids.any (fun x => !eS x) <;> rfl
    · have e6 : ((p.Op == 6) || (p.Op == 7)) = false := by simpa using h67
      have : (0 ≤ p.Op ∧ p.Op ≤ 4) := by omega
      rw [e6, if_pos this]
      rfl
theorem Af {p : al} (h : cE p ≤ df) : qK p = some (eS p) := uU _ _ (ko h)
theorem re {p k : al} (hk : k ∈ p.Kids) (h : cE p ≤ df) : cE k ≤ df := by
  have := oP hk; rw [gS] at h; omega
theorem mO {l : List al} : ((l.length : Int) == 0) = decide (l.length = 0) := by
  rw [Bool.eq_iff_iff]; simp
theorem rf (n : Int) : ∀ k p, dD p ≤ k → cE p ≤ df → lh k p n = some (cL n p)
  | 0, p, h, _ => by have := lw p; omega
  | k + 1, p, h, hb => by
    show ou (lh k) p n = _
    have hp := jz p
    have hc : b6 (qL p n (lh k)) (bA 0 (p.Kids.length : Int)) () = some (fL (if p.Kids.any (fun x => !cL n x) then some false else none)) := by
      rw [← ra (fun x => !cL n x) false p.Kids []]
      refine uS _ _ _ fun pre x r e => ?_
      have := jA (rb e)
      simp only [qL, uT e, Option.bind_some]
      rw [rf n k x (by omega) (re (rb e) hb)]
      simp only [Option.bind_some]
      cases cL n x <;> rfl
    rw [f4]
    simp only [ou, hc, Option.bind_some]
    by_cases h0 : p.Op = 0
    · simp [h0, Bool.decide_and, mO]
      all_goals (rw [Bool.eq_iff_iff]; simp)
    by_cases h1 : p.Op = 1
    · simp [h1, Bool.decide_and, mO]
      all_goals (rw [Bool.eq_iff_iff]; simp)
    by_cases h2 : p.Op = 2
    · simp [h2, Bool.decide_and, mO]
      all_goals (rw [Bool.eq_iff_iff]; simp)
    by_cases h3 : p.Op = 3
    · simp [h3, Bool.decide_and, mO]
      all_goals (rw [Bool.eq_iff_iff]; simp)
    by_cases h5 : p.Op = 5
    · simp [h5, Bool.decide_and, mO]
      all_goals (rw [Bool.eq_iff_iff]; simp)
    by_cases h4 : p.Op = 4
    · by_cases hl : p.Kids.length = 1
      · obtain ⟨x, hx⟩ := List.length_eq_one_iff.1 hl
        have hm : x ∈ p.Kids := by rw [hx]; simp
        have := jA hm
        have e1 := Af (re hm hb)
        have e2 := rf n k x (by omega) (re hm hb)
        simp only [h4, hx]
        simp [be, e1, e2]
        by_cases hf : p.F = 0
        · by_cases hn : p.N = 0
          · cases eS x <;> cases cL n x <;> simp [hf, hn]
          · simp [hf, hn]
        · simp [hf]
      · have : ¬ ((p.Kids.length : Int) = 1) := by omega
        simp [h4, hl, this]
    by_cases h67 : p.Op = 6 ∨ p.Op = 7
    · have e67 : ((if (p.Op == 6) then some (p.Op == 6) else some (p.Op == 7)) : Option Bool) = some true := by rcases h67 with h | h <;> simp [h]
      rw [e67]
      simp only [Option.bind_some]
      by_cases hl : 2 ≤ p.Kids.length
      · have : ¬ (p.Kids.length : Int) < 2 := by omega
        by_cases hf : p.F = 0
        · by_cases hn : p.N = 0
          · rw [show (p.Op == 0) = false by simpa using h0, show (p.Op == 1) = false by simpa using h1, show (p.Op == 2) = false by simpa using h2, show (p.Op == 3) = false by simpa using h3, show (p.Op == 5) = false by simpa using h5, show (p.Op == 4) = false by simpa using h4]
            rw [show (decide ((p.Kids.length : Int) < 2)) = false by simpa using this, hf, hn, if_neg (show ¬ (p.Op = 0 ∨ p.Op = 1) by omega), if_neg h4, if_pos h67, show (decide (2 ≤ p.Kids.length ∧ (0 : Int) = 0 ∧ (0 : Int) = 0)) = true by simpa using hl]
            rw [← rc]
            generalize p.Kids.any (fun x => !cL n x) = b
            cases b <;> simp [fL]
          · simp [h0, h1, h2, h3, h5, h4, h67, hl, this, hf, hn]
        · simp [h0, h1, h2, h3, h5, h4, h67, hl, this, hf]
      · have : (p.Kids.length : Int) < 2 := by omega
        simp [h0, h1, h2, h3, h5, h4, h67, hl, this]
    have h6 : p.Op ≠ 6 := fun h => h67 (.inl h)
    have h7 : p.Op ≠ 7 := fun h => h67 (.inr h)
    simp [h0, h1, h4, h6, h7, h2, h5, h3]
theorem Ag {p : al} (n : Int) (h : cE p ≤ df) : qM p n = some (cL n p) := rf n _ _ (ko h) h
def kq (p : al) : Bool := decide (cE p ≤ 300 ∧ dD p ≤ 20) && cL 4 p
theorem Ah {p : al} (h : cE p ≤ df) : ow (kg.mk [0, 0, 0, 0] p []) = some (if cE p ≤ 300 ∧ dD p ≤ 20 then if cL 4 p then 0 else 11 else 2) := by
  have e3 := Ag 4 h
  simp only [ow, Ad h, Ae h]
  by_cases h1 : cE p ≤ 300
  · have : ¬ (cE p : Int) > 300 := by omega
    by_cases h2 : dD p ≤ 20
    · have h2' : ¬ (dD p : Int) > 20 := by omega
      cases hf : cL 4 p <;> simp [h1, h2, this, h2', e3, hf, bA, b6]
    · have h2' : (dD p : Int) > 20 := by omega
      simp [h1, h2, this, h2']
  · have : (cE p : Int) > 300 := by omega
    simp [h1, this]
theorem Ai : fj 4 (0 : Int) = some [0, 0, 0, 0] := rfl
theorem Aj {p : al} (h : cE p ≤ df) : ox p = some (kq p) := by
  simp only [ox, Ai, Option.bind_some, Ah h, kq]
  by_cases c : cE p ≤ 300 ∧ dD p ≤ 20
  · cases hf : cL 4 p <;> simp [c]
  · simp [c]
end Go.AM
end
