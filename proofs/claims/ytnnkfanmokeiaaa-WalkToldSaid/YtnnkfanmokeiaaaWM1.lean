import Derived.Test.YtnnkfanmokeiaaaAmOr
import Derived.Test.YtnnkfanmokeiaaaWtT
set_option linter.unusedVariables false
set_option linter.unusedSimpArgs false
namespace Go.AM
open Go
theorem vz {P : ai → Prop} (h : ∀ p, (∀ k ∈ p.Kids, P k) → P p) : ∀ p, P p := by
  intro p
  refine ai.rec (motive_1 := P) (motive_2 := fun l => ∀ k ∈ l, P k) (fun o f n l ih => h _ ih) (fun k hk => by cases hk) (fun x l hx hl k hk => ?_) p
  rcases List.mem_cons.1 hk with rfl | hk
  · exact hx
  · exact hl k hk
noncomputable instance polDec : DecidableEq ai := fun a b => Classical.propDecidable (a = b)
mutual
def b8 : ai → Nat
  | ⟨_, _, _, l⟩ => 1 + cr l
def cr : List ai → Nat
  | [] => 0
  | x :: l => b8 x + cr l
end
mutual
def c9 : ai → Nat
  | ⟨_, _, _, l⟩ => 1 + dP l
def dP : List ai → Nat
  | [] => 0
  | x :: l => max (c9 x) (dP l)
end
mutual
def fD : ai → Bool
  | ⟨o, _, _, l⟩ => if 0 ≤ o ∧ o ≤ 4 then true else if o = 6 ∨ o = 7 then jg l else false
def jg : List ai → Bool
  | [] => true
  | x :: l => fD x && jg l
end
mutual
def cT (n : Int) : ai → Bool
  | ⟨o, f, m, l⟩ =>
    if o = 0 ∨ o = 1 then decide (l.length = 0 ∧ f = 0 ∧ m = 0)
    else if o = 4 then decide (l.length = 1 ∧ f = 0 ∧ m = 0) && jg l && jh n l
    else if o = 6 ∨ o = 7 then decide (2 ≤ l.length ∧ f = 0 ∧ m = 0) && jh n l
    else if o = 2 then decide (l.length = 0 ∧ 0 ≤ f ∧ f < 8)
    else if o = 5 then decide (l.length = 0 ∧ 1 ≤ f ∧ f < 8)
    else if o = 3 then decide (l.length = 0 ∧ 0 ≤ f ∧ f < n)
    else false
def jh (n : Int) : List ai → Bool
  | [] => true
  | x :: l => cT n x && jh n l
end
theorem j7 (p : ai) : b8 p = 1 + cr p.Kids := by cases p; rw [b8]
theorem g8 (p : ai) : c9 p = 1 + dP p.Kids := by cases p; rw [c9]
theorem nS : ∀ l, jg l = l.all fD
  | [] => by rw [jg]; rfl
  | x :: l => by rw [jg, nS l]; rfl
theorem rc (n : Int) : ∀ l, jh n l = l.all (cT n)
  | [] => by rw [jh]; rfl
  | x :: l => by rw [jh, rc n l]; rfl
theorem rd (p : ai) : fD p = if 0 ≤ p.Op ∧ p.Op ≤ 4 then true else if p.Op = 6 ∨ p.Op = 7 then p.Kids.all fD else false := by
  cases p; rw [fD, nS]
theorem iB (n : Int) (p : ai) : cT n p =
    if p.Op = 0 ∨ p.Op = 1 then decide (p.Kids.length = 0 ∧ p.F = 0 ∧ p.N = 0)
    else if p.Op = 4 then decide (p.Kids.length = 1 ∧ p.F = 0 ∧ p.N = 0) && p.Kids.all fD && p.Kids.all (cT n)
    else if p.Op = 6 ∨ p.Op = 7 then decide (2 ≤ p.Kids.length ∧ p.F = 0 ∧ p.N = 0) && p.Kids.all (cT n)
    else if p.Op = 2 then decide (p.Kids.length = 0 ∧ 0 ≤ p.F ∧ p.F < 8)
    else if p.Op = 5 then decide (p.Kids.length = 0 ∧ 1 ≤ p.F ∧ p.F < 8)
    else if p.Op = 3 then decide (p.Kids.length = 0 ∧ 0 ≤ p.F ∧ p.F < n)
    else false := by
  cases p; rw [cT, rc, nS]
theorem gJ : ∀ l m, cr (l ++ m) = cr l + cr m
  | [], m => by simp [cr]
  | x :: l, m => by simp only [List.cons_append, cr, gJ l m]; omega
theorem re : ∀ l m, dP (l ++ m) = max (dP l) (dP m)
  | [], m => by simp [dP]
  | x :: l, m => by simp only [List.cons_append, dP, re l m]; omega
theorem lM {x : ai} : ∀ {l : List ai}, x ∈ l → b8 x ≤ cr l
  | y :: l, h => by
    rw [cr]
    rcases List.mem_cons.1 h with rfl | h
    · omega
    · have := lM h; omega
theorem g9 {x : ai} : ∀ {l : List ai}, x ∈ l → c9 x ≤ dP l
  | y :: l, h => by
    rw [dP]
    rcases List.mem_cons.1 h with rfl | h
    · omega
    · have := g9 h; omega
theorem vA (p : ai) : 1 ≤ b8 p := by rw [j7]; omega
theorem ji (p : ai) : 1 ≤ c9 p := by rw [g8]; omega
theorem nT : ∀ l : List ai, l.length ≤ cr l
  | [] => by simp [cr]
  | x :: l => by
    have := nT l; have := vA x
    rw [cr, List.length_cons]; omega
theorem rf : ∀ l : List ai, (∀ x ∈ l, c9 x ≤ b8 x) → dP l ≤ cr l
  | [], _ => by simp [dP]
  | x :: l, h => by
    have h1 := h x (by simp)
    have h2 := rf l fun y hy => h y (by simp [hy])
    rw [dP, cr]; omega
theorem rg (p : ai) : c9 p ≤ b8 p := by
  refine vz (P := fun p => c9 p ≤ b8 p) (fun p ih => ?_) p
  have := rf p.Kids ih
  rw [g8, j7]; omega
theorem rh {α : Type} {l : List α} {i : Nat} {x : α} (h : l[i]? = some x) : l = l.take i ++ x :: l.drop (i + 1) := by
  have hi := (List.getElem?_eq_some_iff.1 h).1
  have hx : l[i] = x := (List.getElem?_eq_some_iff.1 h).2
  rw [← hx, List.getElem_cons_drop, List.take_append_drop]
theorem vB {l : List ai} {i : Nat} {x : ai} (h : l[i]? = some x) : cr (l.take i) + b8 x ≤ cr l := by
  have e := congrArg cr (rh h)
  rw [gJ, cr] at e
  omega
def da : Nat := 100000
theorem rk : ∀ k p, c9 p ≤ k → b8 p ≤ da → i8 k p = some (b8 p : Int)
  | 0, p, h, _ => by have := ji p; omega
  | k + 1, p, h, hb => by
    show k8 (i8 k) p = _
    have hp := g8 p; have hs := j7 p
    unfold da at hb
    obtain ⟨s', e, hP⟩ := kW (nn p (i8 k)) p.Kids (fun l s => s = 1 + (cr l : Int)) 1 (by simp [cr]) (fun i x s hx hP => by
      have hm := dx hx
      have h1 := g9 hm; have h2 := lM hm; have h3 := vB hx
      refine ⟨1 + (cr (p.Kids.take i ++ [x]) : Int), ?_, rfl⟩
      simp only [nn, cS, hx, Option.bind_some]
      rw [rk k x (by omega) (by unfold da; omega)]
      simp only [Option.bind_some]
      rw [hP, i5 (by omega) (by omega), gJ]
      simp [cr]; omega)
    simp only [k8, e, Option.bind_some]
    rw [hP, hs]; push_cast; rfl
theorem rm : ∀ k p, c9 p ≤ k → b8 p ≤ da → i9 k p = some (c9 p : Int)
  | 0, p, h, _ => by have := ji p; omega
  | k + 1, p, h, hb => by
    show k9 (i9 k) p = _
    have hp := g8 p; have hs := j7 p
    unfold da at hb
    have hd := rg p
    obtain ⟨s', e, hP⟩ := kW (nt p (i9 k)) p.Kids (fun l s => s = (dP l : Int)) 0 (by simp [dP]) (fun i x s hx hP => by
      have hm := dx hx
      have h1 := g9 hm; have h2 := lM hm
      refine ⟨(dP (p.Kids.take i ++ [x]) : Int), ?_, rfl⟩
      simp only [nt, cS, hx, Option.bind_some]
      rw [rm k x (by omega) (by unfold da; omega)]
      simp only [Option.bind_some]
      rw [hP, re]
      simp only [kM, dP]
      split <;> simp <;> omega)
    simp only [k9, e, Option.bind_some]
    rw [hP, hp, i5 (by omega) (by omega)]; push_cast; rw [Int.add_comm]
theorem j8 {p : ai} (h : b8 p ≤ da) : c9 p ≤ dH := by
  have := rg p
  unfold da at h
  obtain ⟨m, hm⟩ := nd 1000000 (by omega)
  omega
theorem vC {p : ai} (h : b8 p ≤ da) : np p = some (b8 p : Int) := rk _ _ (j8 h) h
theorem vD {p : ai} (h : b8 p ≤ da) : nu p = some (c9 p : Int) := rm _ _ (j8 h) h
def dI {α β : Type} (step : List α → α → List α → Option β) : List α → List α → Option β
  | _, [] => none
  | pre, x :: r => match step pre x r with
    | some b => some b
    | none => dI step (pre ++ [x]) r
theorem ro {α β : Type} (f : Int → Unit → Option (Br Unit β)) (step : List α → α → List α → Option β) {l : List α} (h : ∀ pre x r, l = pre ++ x :: r → f (pre.length : Int) () = some (fB (step pre x r))) :
    ∀ suf pre, l = pre ++ suf → bT f (bJ (pre.length : Int) (l.length : Int)) () = some (fM (dI step pre suf))
  | [], pre, e => by
    have : l.length = pre.length := by rw [e]; simp
    rw [this, kU]; rfl
  | x :: r, pre, e => by
    have hl : l.length = pre.length + (r.length + 1) := by rw [e]; simp
    rw [hl, kT]
    simp only [bT]
    rw [h pre x r e]
    simp only [Option.bind_some, dI]
    cases step pre x r with
    | some b => rfl
    | none =>
      show bT f _ () = _
      have := ro f step h r (pre ++ [x]) (by rw [e]; simp)
      rw [hl] at this
      simpa using this
theorem j9 {α β : Type} (f : Int → Unit → Option (Br Unit β)) (step : List α → α → List α → Option β) (l : List α) (h : ∀ pre x r, l = pre ++ x :: r → f (pre.length : Int) () = some (fB (step pre x r))) :
    bT f (bJ 0 (l.length : Int)) () = some (fM (dI step [] l)) := by
  have := ro f step h l [] rfl
  simpa using this
theorem iC {α : Type} {l pre r : List α} {x : α} (e : l = pre ++ x :: r) : bq l (pre.length : Int) = some x := by
  rw [cS, e]; simp
theorem vE {α : Type} {l pre r : List α} {x : α} (e : l = pre ++ x :: r) : x ∈ l := by rw [e]; simp
theorem vF {l : List ai} {f : ai → Option Bool} {p : ai → Bool} (h : ∀ x ∈ l, f x = some (p x)) :
    la l f = some (match dI (fun pre x _ => if p x then some (pre.length : Int) else none) [] l with | some i => i | none => -1) := by
  unfold la
  rw [j9 _ (fun pre x _ => if p x then some (pre.length : Int) else none) l (fun pre x r e => by
    simp only [qT, iC e, Option.bind_some, h x (vE e)]
    by_cases c : p x = true <;> simp [c, fB])]
  simp only [Option.bind_some]
  cases dI (fun pre x _ => if p x then some (pre.length : Int) else none) [] l <;> rfl
theorem rp (p : ai → Bool) : ∀ (suf pre : List ai), (match dI (fun pre x _ => if p x then some (pre.length : Int) else none) pre suf with | some i => decide (i ≥ 0) | none => false) = suf.any p
  | [], pre => rfl
  | x :: r, pre => by
    simp only [dI, List.any_cons]
    by_cases h : p x = true
    · simp [h]
    · simp [h, rp p r]
theorem rq {l : List ai} {f : ai → Option Bool} {p : ai → Bool} (h : ∀ x ∈ l, f x = some (p x)) : iw l f = some (l.any p) := by
  unfold iw
  rw [vF h, Option.bind_some, ← rp p l []]
  cases dI (fun pre x _ => if p x then some (pre.length : Int) else none) [] l <;> simp
end Go.AM
