import Derived.Test.YtnnkfanmokeiaaaAmOr
import Derived.Test.YtnnkfanmokeiaaaPmT
set_option linter.unusedVariables false
set_option linter.unusedSimpArgs false
namespace Go.AM
open Go
theorem uE {P : aj → Prop} (h : ∀ p, (∀ k ∈ p.Kids, P k) → P p) : ∀ p, P p := by
  intro p
  refine aj.rec (motive_1 := P) (motive_2 := fun l => ∀ k ∈ l, P k) (fun o f n l ih => h _ ih) (fun k hk => by cases hk) (fun x l hx hl k hk => ?_) p
  rcases List.mem_cons.1 hk with rfl | hk
  · exact hx
  · exact hl k hk
noncomputable instance polDec : DecidableEq aj := fun a b => Classical.propDecidable (a = b)
mutual
def bK : aj → Nat
  | ⟨_, _, _, l⟩ => 1 + bX l
def bX : List aj → Nat
  | [] => 0
  | x :: l => bK x + bX l
end
mutual
def b4 : aj → Nat
  | ⟨_, _, _, l⟩ => 1 + dz l
def dz : List aj → Nat
  | [] => 0
  | x :: l => max (b4 x) (dz l)
end
mutual
def dj : aj → Bool
  | ⟨o, _, _, l⟩ => if 0 ≤ o ∧ o ≤ 4 then true else if o = 6 ∨ o = 7 then iN l else false
def iN : List aj → Bool
  | [] => true
  | x :: l => dj x && iN l
end
mutual
def bS (n : Int) : aj → Bool
  | ⟨o, f, m, l⟩ =>
    if o = 0 ∨ o = 1 then decide (l.length = 0 ∧ f = 0 ∧ m = 0)
    else if o = 4 then decide (l.length = 1 ∧ f = 0 ∧ m = 0) && iN l && iO n l
    else if o = 6 ∨ o = 7 then decide (2 ≤ l.length ∧ f = 0 ∧ m = 0) && iO n l
    else if o = 2 then decide (l.length = 0 ∧ 0 ≤ f ∧ f < 8)
    else if o = 5 then decide (l.length = 0 ∧ 1 ≤ f ∧ f < 8)
    else if o = 3 then decide (l.length = 0 ∧ 0 ≤ f ∧ f < n)
    else false
def iO (n : Int) : List aj → Bool
  | [] => true
  | x :: l => bS n x && iO n l
end
theorem jP (p : aj) : bK p = 1 + bX p.Kids := by cases p; rw [bK]
theorem fu (p : aj) : b4 p = 1 + dz p.Kids := by cases p; rw [b4]
theorem ni : ∀ l, iN l = l.all dj
  | [] => by rw [iN]; rfl
  | x :: l => by rw [iN, ni l]; rfl
theorem qn (n : Int) : ∀ l, iO n l = l.all (bS n)
  | [] => by rw [iO]; rfl
  | x :: l => by rw [iO, qn n l]; rfl
theorem nj (p : aj) : dj p = if 0 ≤ p.Op ∧ p.Op ≤ 4 then true else if p.Op = 6 ∨ p.Op = 7 then p.Kids.all dj else false := by
  cases p; rw [dj, ni]
theorem gN (n : Int) (p : aj) : bS n p =
    if p.Op = 0 ∨ p.Op = 1 then decide (p.Kids.length = 0 ∧ p.F = 0 ∧ p.N = 0)
    else if p.Op = 4 then decide (p.Kids.length = 1 ∧ p.F = 0 ∧ p.N = 0) && p.Kids.all dj && p.Kids.all (bS n)
    else if p.Op = 6 ∨ p.Op = 7 then decide (2 ≤ p.Kids.length ∧ p.F = 0 ∧ p.N = 0) && p.Kids.all (bS n)
    else if p.Op = 2 then decide (p.Kids.length = 0 ∧ 0 ≤ p.F ∧ p.F < 8)
    else if p.Op = 5 then decide (p.Kids.length = 0 ∧ 1 ≤ p.F ∧ p.F < 8)
    else if p.Op = 3 then decide (p.Kids.length = 0 ∧ 0 ≤ p.F ∧ p.F < n)
    else false := by
  cases p; rw [bS, qn, ni]
theorem gn : ∀ l m, bX (l ++ m) = bX l + bX m
  | [], m => by simp [bX]
  | x :: l, m => by simp only [List.cons_append, bX, gn l m]; omega
theorem qo : ∀ l m, dz (l ++ m) = max (dz l) (dz m)
  | [], m => by simp [dz]
  | x :: l, m => by simp only [List.cons_append, dz, qo l m]; omega
theorem ls {x : aj} : ∀ {l : List aj}, x ∈ l → bK x ≤ bX l
  | y :: l, h => by
    rw [bX]
    rcases List.mem_cons.1 h with rfl | h
    · omega
    · have := ls h; omega
theorem e9 {x : aj} : ∀ {l : List aj}, x ∈ l → b4 x ≤ dz l
  | y :: l, h => by
    rw [dz]
    rcases List.mem_cons.1 h with rfl | h
    · omega
    · have := e9 h; omega
theorem uF (p : aj) : 1 ≤ bK p := by rw [jP]; omega
theorem gq (p : aj) : 1 ≤ b4 p := by rw [fu]; omega
theorem nk : ∀ l : List aj, l.length ≤ bX l
  | [] => by simp [bX]
  | x :: l => by
    have := nk l; have := uF x
    rw [bX, List.length_cons]; omega
theorem qp : ∀ l : List aj, (∀ x ∈ l, b4 x ≤ bK x) → dz l ≤ bX l
  | [], _ => by simp [dz]
  | x :: l, h => by
    have h1 := h x (by simp)
    have h2 := qp l fun y hy => h y (by simp [hy])
    rw [dz, bX]; omega
theorem qr (p : aj) : b4 p ≤ bK p := by
  refine uE (P := fun p => b4 p ≤ bK p) (fun p ih => ?_) p
  have := qp p.Kids ih
  rw [fu, jP]; omega
theorem nn {α : Type} {l : List α} {i : Nat} {x : α} (h : l[i]? = some x) : l = l.take i ++ x :: l.drop (i + 1) := by
  have hi := (List.getElem?_eq_some_iff.1 h).1
  have hx : l[i] = x := (List.getElem?_eq_some_iff.1 h).2
  rw [← hx, List.getElem_cons_drop, List.take_append_drop]
theorem uG {l : List aj} {i : Nat} {x : aj} (h : l[i]? = some x) : bX (l.take i) + bK x ≤ bX l := by
  have e := congrArg bX (nn h)
  rw [gn, bX] at e
  omega
def b9 : Nat := 100000
theorem np : ∀ k p, b4 p ≤ k → bK p ≤ b9 → gI k p = some (bK p : Int)
  | 0, p, h, _ => by have := gq p; omega
  | k + 1, p, h, hb => by
    show jI (gI k) p = _
    have hp := fu p; have hs := jP p
    unfold b9 at hb
    obtain ⟨s', e, hP⟩ := jH (mK p (gI k)) p.Kids (fun l s => s = 1 + (bX l : Int)) 1 (by simp [bX]) (fun i x s hx hP => by
      have hm := c8 hx
      have h1 := e9 hm; have h2 := ls hm; have h3 := uG hx
      refine ⟨1 + (bX (p.Kids.take i ++ [x]) : Int), ?_, rfl⟩
      simp only [mK, dP, hx, Option.bind_some]
      rw [np k x (by omega) (by unfold b9; omega)]
      simp only [Option.bind_some]
      rw [hP, iF (by omega) (by omega), gn]
      simp [bX]; omega)
    simp only [jI, e, Option.bind_some]
    rw [hP, hs]; push_cast; rfl
theorem nt : ∀ k p, b4 p ≤ k → bK p ≤ b9 → gJ k p = some (b4 p : Int)
  | 0, p, h, _ => by have := gq p; omega
  | k + 1, p, h, hb => by
    show jJ (gJ k) p = _
    have hp := fu p; have hs := jP p
    unfold b9 at hb
    have hd := qr p
    obtain ⟨s', e, hP⟩ := jH (mM p (gJ k)) p.Kids (fun l s => s = (dz l : Int)) 0 (by simp [dz]) (fun i x s hx hP => by
      have hm := c8 hx
      have h1 := e9 hm; have h2 := ls hm
      refine ⟨(dz (p.Kids.take i ++ [x]) : Int), ?_, rfl⟩
      simp only [mM, dP, hx, Option.bind_some]
      rw [nt k x (by omega) (by unfold b9; omega)]
      simp only [Option.bind_some]
      rw [hP, qo]
      simp only [hI, dz]
      split <;> simp <;> omega)
    simp only [jJ, e, Option.bind_some]
    rw [hP, hp, iF (by omega) (by omega)]; push_cast; rw [Int.add_comm]
theorem qs : ∀ k, jN k = gI k
  | 0 => rfl
  | k + 1 => by show mX (jN k) = jI (gI k); rw [qs k]; rfl
theorem qt : ∀ k, jO k = gJ k
  | 0 => rfl
  | k + 1 => by show mY (jO k) = jJ (gJ k); rw [qt k]; rfl
theorem fQ {p : aj} (h : bK p ≤ b9) : b4 p ≤ cA := by
  have := qr p
  unfold b9 at h
  obtain ⟨m, hm⟩ := ui 1000000 (by omega)
  omega
theorem uH {p : aj} (h : bK p ≤ b9) : mL p = some (bK p : Int) := np _ _ (fQ h) h
theorem uI {p : aj} (h : bK p ≤ b9) : mN p = some (b4 p : Int) := nt _ _ (fQ h) h
theorem uJ {p : aj} (h : bK p ≤ b9) : kX p = some (bK p : Int) := by unfold kX; rw [qs]; exact np _ _ (fQ h) h
theorem uK {p : aj} (h : bK p ≤ b9) : kY p = some (b4 p : Int) := by unfold kY; rw [qt]; exact nt _ _ (fQ h) h
def eR {α β : Type} (step : List α → α → List α → Option β) : List α → List α → Option β
  | _, [] => none
  | pre, x :: r => match step pre x r with
    | some b => some b
    | none => eR step (pre ++ [x]) r
theorem qu {α β : Type} (f : Int → Unit → Option (Br Unit β)) (step : List α → α → List α → Option β) {l : List α} (h : ∀ pre x r, l = pre ++ x :: r → f (pre.length : Int) () = some (fO (step pre x r))) :
    ∀ suf pre, l = pre ++ suf → bO f (bA (pre.length : Int) (l.length : Int)) () = some (e8 (eR step pre suf))
  | [], pre, e => by
    have : l.length = pre.length := by rw [e]; simp
    rw [this, kF]; rfl
  | x :: r, pre, e => by
    have hl : l.length = pre.length + (r.length + 1) := by rw [e]; simp
    rw [hl, kE]
    simp only [bO]
    rw [h pre x r e]
    simp only [Option.bind_some, eR]
    cases step pre x r with
    | some b => rfl
    | none =>
      show bO f _ () = _
      have := qu f step h r (pre ++ [x]) (by rw [e]; simp)
      rw [hl] at this
      simpa using this
theorem lu {α β : Type} (f : Int → Unit → Option (Br Unit β)) (step : List α → α → List α → Option β) (l : List α) (h : ∀ pre x r, l = pre ++ x :: r → f (pre.length : Int) () = some (fO (step pre x r))) :
    bO f (bA 0 (l.length : Int)) () = some (e8 (eR step [] l)) := by
  have := qu f step h l [] rfl
  simpa using this
theorem nu {α β : Type} (p : α → Bool) (b : β) : ∀ (suf pre : List α), eR (fun _ x _ => if p x then some b else none) pre suf = if suf.any p then some b else none
  | [], pre => rfl
  | x :: r, pre => by
    simp only [eR, List.any_cons]
    by_cases h : p x = true
    · simp [h]
    · simp [h, nu p b r]
theorem iP {α : Type} {l pre r : List α} {x : α} (e : l = pre ++ x :: r) : bn l (pre.length : Int) = some x := by
  rw [dP, e]; simp
theorem lw {α : Type} {l pre r : List α} {x : α} (e : l = pre ++ x :: r) : x ∈ l := by rw [e]; simp
theorem uL {l : List aj} {f : aj → Option Bool} {p : aj → Bool} (h : ∀ x ∈ l, f x = some (p x)) :
    kI l f = some (match eR (fun pre x _ => if p x then some (pre.length : Int) else none) [] l with | some i => i | none => -1) := by
  unfold kI
  rw [lu _ (fun pre x _ => if p x then some (pre.length : Int) else none) l (fun pre x r e => by
    simp only [ql, iP e, Option.bind_some, h x (lw e)]
    by_cases c : p x = true <;> simp [c, fO])]
  simp only [Option.bind_some]
  cases eR (fun pre x _ => if p x then some (pre.length : Int) else none) [] l <;> rfl
theorem qv (p : aj → Bool) : ∀ (suf pre : List aj), (match eR (fun pre x _ => if p x then some (pre.length : Int) else none) pre suf with | some i => decide (i ≥ 0) | none => false) = suf.any p
  | [], pre => rfl
  | x :: r, pre => by
    simp only [eR, List.any_cons]
    by_cases h : p x = true
    · simp [h]
    · simp [h, qv p r]
theorem qw {l : List aj} {f : aj → Option Bool} {p : aj → Bool} (h : ∀ x ∈ l, f x = some (p x)) : hN l f = some (l.any p) := by
  unfold hN
  rw [uL h, Option.bind_some, ← qv p l []]
  cases eR (fun pre x _ => if p x then some (pre.length : Int) else none) [] l <;> simp
end Go.AM
