import Derived.Test.YtnnkfanmokeiaaaAmLp
import Derived.Test.YtnnkfanmokeiaaaPnT
set_option linter.unusedVariables false
set_option linter.unusedSimpArgs false
namespace Go.AM
open Go
theorem sl {P : aj → Prop} (h : ∀ p, (∀ k ∈ p.Kids, P k) → P p) : ∀ p, P p := by
  intro p
  refine aj.rec (motive_1 := P) (motive_2 := fun l => ∀ k ∈ l, P k) (fun o f n l ih => h _ ih) (fun k hk => by cases hk) (fun x l hx hl k hk => ?_) p
  rcases List.mem_cons.1 hk with rfl | hk
  · exact hx
  · exact hl k hk
noncomputable instance polDec : DecidableEq aj := fun a b => Classical.propDecidable (a = b)
mutual
def bx : aj → Nat
  | ⟨_, _, _, l⟩ => 1 + bT l
def bT : List aj → Nat
  | [] => 0
  | x :: l => bx x + bT l
end
mutual
def bW : aj → Nat
  | ⟨_, _, _, l⟩ => 1 + cP l
def cP : List aj → Nat
  | [] => 0
  | x :: l => max (bW x) (cP l)
end
mutual
def cF : aj → Bool
  | ⟨o, _, _, l⟩ => if 0 ≤ o ∧ o ≤ 4 then true else if o = 6 ∨ o = 7 then hI l else false
def hI : List aj → Bool
  | [] => true
  | x :: l => cF x && hI l
end
mutual
def cr (n : Int) : aj → Bool
  | ⟨o, f, m, l⟩ =>
    if o = 0 ∨ o = 1 then decide (l.length = 0 ∧ f = 0 ∧ m = 0)
    else if o = 4 then decide (l.length = 1 ∧ f = 0 ∧ m = 0) && hI l && hJ n l
    else if o = 6 ∨ o = 7 then decide (2 ≤ l.length ∧ f = 0 ∧ m = 0) && hJ n l
    else if o = 2 then decide (l.length = 0 ∧ 0 ≤ f ∧ f < 8)
    else if o = 5 then decide (l.length = 0 ∧ 1 ≤ f ∧ f < 8)
    else if o = 3 then decide (l.length = 0 ∧ 0 ≤ f ∧ f < n)
    else false
def hJ (n : Int) : List aj → Bool
  | [] => true
  | x :: l => cr n x && hJ n l
end
theorem gr (p : aj) : bx p = 1 + bT p.Kids := by cases p; rw [bx]
theorem eK (p : aj) : bW p = 1 + cP p.Kids := by cases p; rw [bW]
theorem lR : ∀ l, hI l = l.all cF
  | [] => by rw [hI]; rfl
  | x :: l => by rw [hI, lR l]; rfl
theorem oB (n : Int) : ∀ l, hJ n l = l.all (cr n)
  | [] => by rw [hJ]; rfl
  | x :: l => by rw [hJ, oB n l]; rfl
theorem gu (p : aj) : cF p = if 0 ≤ p.Op ∧ p.Op ≤ 4 then true else if p.Op = 6 ∨ p.Op = 7 then p.Kids.all cF else false := by
  cases p; rw [cF, lR]
theorem gv (n : Int) (p : aj) : cr n p =
    if p.Op = 0 ∨ p.Op = 1 then decide (p.Kids.length = 0 ∧ p.F = 0 ∧ p.N = 0)
    else if p.Op = 4 then decide (p.Kids.length = 1 ∧ p.F = 0 ∧ p.N = 0) && p.Kids.all cF && p.Kids.all (cr n)
    else if p.Op = 6 ∨ p.Op = 7 then decide (2 ≤ p.Kids.length ∧ p.F = 0 ∧ p.N = 0) && p.Kids.all (cr n)
    else if p.Op = 2 then decide (p.Kids.length = 0 ∧ 0 ≤ p.F ∧ p.F < 8)
    else if p.Op = 5 then decide (p.Kids.length = 0 ∧ 1 ≤ p.F ∧ p.F < 8)
    else if p.Op = 3 then decide (p.Kids.length = 0 ∧ 0 ≤ p.F ∧ p.F < n)
    else false := by
  cases p; rw [cr, oB, lR]
theorem fv : ∀ l m, bT (l ++ m) = bT l + bT m
  | [], m => by simp [bT]
  | x :: l, m => by simp only [List.cons_append, bT, fv l m]; omega
theorem oC : ∀ l m, cP (l ++ m) = max (cP l) (cP m)
  | [], m => by simp [cP]
  | x :: l, m => by simp only [List.cons_append, cP, oC l m]; omega
theorem j1 {x : aj} : ∀ {l : List aj}, x ∈ l → bx x ≤ bT l
  | y :: l, h => by
    rw [bT]
    rcases List.mem_cons.1 h with rfl | h
    · omega
    · have := j1 h; omega
theorem eY {x : aj} : ∀ {l : List aj}, x ∈ l → bW x ≤ cP l
  | y :: l, h => by
    rw [cP]
    rcases List.mem_cons.1 h with rfl | h
    · omega
    · have := eY h; omega
theorem sm (p : aj) : 1 ≤ bx p := by rw [gr]; omega
theorem gw (p : aj) : 1 ≤ bW p := by rw [eK]; omega
theorem lS : ∀ l : List aj, l.length ≤ bT l
  | [] => by simp [bT]
  | x :: l => by
    have := lS l; have := sm x
    rw [bT, List.length_cons]; omega
theorem oD : ∀ l : List aj, (∀ x ∈ l, bW x ≤ bx x) → cP l ≤ bT l
  | [], _ => by simp [cP]
  | x :: l, h => by
    have h1 := h x (by simp)
    have h2 := oD l fun y hy => h y (by simp [hy])
    rw [cP, bT]; omega
theorem oE (p : aj) : bW p ≤ bx p := by
  refine sl (P := fun p => bW p ≤ bx p) (fun p ih => ?_) p
  have := oD p.Kids ih
  rw [eK, gr]; omega
theorem sn {α : Type} {l : List α} {i : Nat} {x : α} (h : l[i]? = some x) : l = l.take i ++ x :: l.drop (i + 1) := by
  have hi := (List.getElem?_eq_some_iff.1 h).1
  have hx : l[i] = x := (List.getElem?_eq_some_iff.1 h).2
  rw [← hx, List.getElem_cons_drop, List.take_append_drop]
theorem sp {l : List aj} {i : Nat} {x : aj} (h : l[i]? = some x) : bT (l.take i) + bx x ≤ bT l := by
  have e := congrArg bT (sn h)
  rw [fv, bT] at e
  omega
def b7 : Nat := 100000
theorem lT : ∀ k p, bW p ≤ k → bx p ≤ b7 → fG k p = some (bx p : Int)
  | 0, p, h, _ => by have := gw p; omega
  | k + 1, p, h, hb => by
    show iP (fG k) p = _
    have hp := eK p; have hs := gr p
    unfold b7 at hb
    obtain ⟨s', e, hP⟩ := iN (lr p (fG k)) p.Kids (fun l s => s = 1 + (bT l : Int)) 1 (by simp [bT]) (fun i x s hx hP => by
      have hm := df hx
      have h1 := eY hm; have h2 := j1 hm; have h3 := sp hx
      refine ⟨1 + (bT (p.Kids.take i ++ [x]) : Int), ?_, rfl⟩
      simp only [lr, gT, hx, Option.bind_some]
      rw [lT k x (by omega) (by unfold b7; omega)]
      simp only [Option.bind_some]
      rw [hP, gS (by omega) (by omega), fv]
      simp [bT]; omega)
    simp only [iP, e, Option.bind_some]
    rw [hP, hs]; push_cast; rfl
theorem lU : ∀ k p, bW p ≤ k → bx p ≤ b7 → fH k p = some (bW p : Int)
  | 0, p, h, _ => by have := gw p; omega
  | k + 1, p, h, hb => by
    show iQ (fH k) p = _
    have hp := eK p; have hs := gr p
    unfold b7 at hb
    have hd := oE p
    obtain ⟨s', e, hP⟩ := iN (lu p (fH k)) p.Kids (fun l s => s = (cP l : Int)) 0 (by simp [cP]) (fun i x s hx hP => by
      have hm := df hx
      have h1 := eY hm; have h2 := j1 hm
      refine ⟨(cP (p.Kids.take i ++ [x]) : Int), ?_, rfl⟩
      simp only [lu, gT, hx, Option.bind_some]
      rw [lU k x (by omega) (by unfold b7; omega)]
      simp only [Option.bind_some]
      rw [hP, oC]
      simp only [gf, cP]
      split <;> simp <;> omega)
    simp only [iQ, e, Option.bind_some]
    rw [hP, hp, gS (by omega) (by omega)]; push_cast; rw [Int.add_comm]
theorem oF : ∀ k, iT k = fG k
  | 0 => rfl
  | k + 1 => by show lK (iT k) = iP (fG k); rw [oF k]; rfl
theorem oG : ∀ k, iU k = fH k
  | 0 => rfl
  | k + 1 => by show lL (iU k) = iQ (fH k); rw [oG k]; rfl
theorem fw {p : aj} (h : bx p ≤ b7) : bW p ≤ cm := by
  have := oE p
  unfold b7 at h
  obtain ⟨m, hm⟩ := jI 1000000 (by omega)
  omega
theorem sq {p : aj} (h : bx p ≤ b7) : ls p = some (bx p : Int) := lT _ _ (fw h) h
theorem sr {p : aj} (h : bx p ≤ b7) : lw p = some (bW p : Int) := lU _ _ (fw h) h
theorem oH {p : aj} (h : bx p ≤ b7) : g8 p = some (bx p : Int) := by unfold g8; rw [oF]; exact lT _ _ (fw h) h
theorem oI {p : aj} (h : bx p ≤ b7) : g9 p = some (bW p : Int) := by unfold g9; rw [oG]; exact lU _ _ (fw h) h
def dZ {α β : Type} (step : List α → α → List α → Option β) : List α → List α → Option β
  | _, [] => none
  | pre, x :: r => match step pre x r with
    | some b => some b
    | none => dZ step (pre ++ [x]) r
theorem oJ {α β : Type} (f : Int → Unit → Option (Br Unit β)) (step : List α → α → List α → Option β) {l : List α} (h : ∀ pre x r, l = pre ++ x :: r → f (pre.length : Int) () = some (jK (step pre x r))) :
    ∀ suf pre, l = pre ++ suf → cd f (bF (pre.length : Int) (l.length : Int)) () = some (iO (dZ step pre suf))
  | [], pre, e => by
    have : l.length = pre.length := by rw [e]; simp
    rw [this, od]; rfl
  | x :: r, pre, e => by
    have hl : l.length = pre.length + (r.length + 1) := by rw [e]; simp
    rw [hl, oc]
    simp only [cd]
    rw [h pre x r e]
    simp only [Option.bind_some, dZ]
    cases step pre x r with
    | some b => rfl
    | none =>
      show cd f _ () = _
      have := oJ f step h r (pre ++ [x]) (by rw [e]; simp)
      rw [hl] at this
      simpa using this
theorem j3 {α β : Type} (f : Int → Unit → Option (Br Unit β)) (step : List α → α → List α → Option β) (l : List α) (h : ∀ pre x r, l = pre ++ x :: r → f (pre.length : Int) () = some (jK (step pre x r))) :
    cd f (bF 0 (l.length : Int)) () = some (iO (dZ step [] l)) := by
  have := oJ f step h l [] rfl
  simpa using this
theorem lV {α β : Type} (p : α → Bool) (b : β) : ∀ (suf pre : List α), dZ (fun _ x _ => if p x then some b else none) pre suf = if suf.any p then some b else none
  | [], pre => rfl
  | x :: r, pre => by
    simp only [dZ, List.any_cons]
    by_cases h : p x = true
    · simp [h]
    · simp [h, lV p b r]
theorem hM {α : Type} {l pre r : List α} {x : α} (e : l = pre ++ x :: r) : bt l (pre.length : Int) = some x := by
  rw [gT, e]; simp
theorem j4 {α : Type} {l pre r : List α} {x : α} (e : l = pre ++ x :: r) : x ∈ l := by rw [e]; simp
theorem ss {l : List aj} {f : aj → Option Bool} {p : aj → Bool} (h : ∀ x ∈ l, f x = some (p x)) :
    jL l f = some (match dZ (fun pre x _ => if p x then some (pre.length : Int) else none) [] l with | some i => i | none => -1) := by
  unfold jL
  rw [j3 _ (fun pre x _ => if p x then some (pre.length : Int) else none) l (fun pre x r e => by
    simp only [oi, hM e, Option.bind_some, h x (j4 e)]
    by_cases c : p x = true <;> simp [c, jK])]
  simp only [Option.bind_some]
  cases dZ (fun pre x _ => if p x then some (pre.length : Int) else none) [] l <;> rfl
theorem oK (p : aj → Bool) : ∀ (suf pre : List aj), (match dZ (fun pre x _ => if p x then some (pre.length : Int) else none) pre suf with | some i => decide (i ≥ 0) | none => false) = suf.any p
  | [], pre => rfl
  | x :: r, pre => by
    simp only [dZ, List.any_cons]
    by_cases h : p x = true
    · simp [h]
    · simp [h, oK p r]
theorem oL {l : List aj} {f : aj → Option Bool} {p : aj → Bool} (h : ∀ x ∈ l, f x = some (p x)) : gp l f = some (l.any p) := by
  unfold gp
  rw [ss h, Option.bind_some, ← oK p l []]
  cases dZ (fun pre x _ => if p x then some (pre.length : Int) else none) [] l <;> simp
end Go.AM
