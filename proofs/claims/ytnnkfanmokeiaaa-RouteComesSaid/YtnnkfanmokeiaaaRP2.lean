import Derived.Test.YtnnkfanmokeiaaaAmPv
import Derived.Test.YtnnkfanmokeiaaaRtT
/-  Several texts in one. -/
section
set_option linter.unusedVariables false
set_option linter.unusedSimpArgs false
namespace Go.AM
open Go
theorem ze {P : ak → Prop} (h : ∀ p, (∀ k ∈ p.Kids, P k) → P p) : ∀ p, P p := by
  intro p
  refine ak.rec (motive_1 := P) (motive_2 := fun l => ∀ k ∈ l, P k) (fun o f n l ih => h _ ih) (fun k hk => by cases hk) (fun x l hx hl k hk => ?_) p
  rcases List.mem_cons.1 hk with rfl | hk
  · exact hx
  · exact hl k hk
noncomputable instance polDec : DecidableEq ak := fun a b => Classical.propDecidable (a = b)
mutual
def cq : ak → Nat
  | ⟨_, _, _, l⟩ => 1 + cI l
def cI : List ak → Nat
  | [] => 0
  | x :: l => cq x + cI l
end
mutual
def di : ak → Nat
  | ⟨_, _, _, l⟩ => 1 + eT l
def eT : List ak → Nat
  | [] => 0
  | x :: l => max (di x) (eT l)
end
mutual
def ep : ak → Bool
  | ⟨o, _, _, l⟩ => if 0 ≤ o ∧ o ≤ 4 then true else if o = 6 ∨ o = 7 then kP l else false
def kP : List ak → Bool
  | [] => true
  | x :: l => ep x && kP l
end
mutual
def cC (n : Int) : ak → Bool
  | ⟨o, f, m, l⟩ =>
    if o = 0 ∨ o = 1 then decide (l.length = 0 ∧ f = 0 ∧ m = 0)
    else if o = 4 then decide (l.length = 1 ∧ f = 0 ∧ m = 0) && kP l && kQ n l
    else if o = 6 ∨ o = 7 then decide (2 ≤ l.length ∧ f = 0 ∧ m = 0) && kQ n l
    else if o = 2 then decide (l.length = 0 ∧ 0 ≤ f ∧ f < 8)
    else if o = 5 then decide (l.length = 0 ∧ 1 ≤ f ∧ f < 8)
    else if o = 3 then decide (l.length = 0 ∧ 0 ≤ f ∧ f < n)
    else false
def kQ (n : Int) : List ak → Bool
  | [] => true
  | x :: l => cC n x && kQ n l
end
theorem gB (p : ak) : cq p = 1 + cI p.Kids := by cases p; rw [cq]
theorem jd (p : ak) : di p = 1 + eT p.Kids := by cases p; rw [di]
theorem qF : ∀ l, kP l = l.all ep
  | [] => by rw [kP]; rfl
  | x :: l => by rw [kP, qF l]; rfl
theorem t6 (n : Int) : ∀ l, kQ n l = l.all (cC n)
  | [] => by rw [kQ]; rfl
  | x :: l => by rw [kQ, t6 n l]; rfl
theorem kR (p : ak) : ep p = if 0 ≤ p.Op ∧ p.Op ≤ 4 then true else if p.Op = 6 ∨ p.Op = 7 then p.Kids.all ep else false := by
  cases p; rw [ep, qF]
theorem fL (n : Int) (p : ak) : cC n p =
    if p.Op = 0 ∨ p.Op = 1 then decide (p.Kids.length = 0 ∧ p.F = 0 ∧ p.N = 0)
    else if p.Op = 4 then decide (p.Kids.length = 1 ∧ p.F = 0 ∧ p.N = 0) && p.Kids.all ep && p.Kids.all (cC n)
    else if p.Op = 6 ∨ p.Op = 7 then decide (2 ≤ p.Kids.length ∧ p.F = 0 ∧ p.N = 0) && p.Kids.all (cC n)
    else if p.Op = 2 then decide (p.Kids.length = 0 ∧ 0 ≤ p.F ∧ p.F < 8)
    else if p.Op = 5 then decide (p.Kids.length = 0 ∧ 1 ≤ p.F ∧ p.F < 8)
    else if p.Op = 3 then decide (p.Kids.length = 0 ∧ 0 ≤ p.F ∧ p.F < n)
    else false := by
  cases p; rw [cC, t6, qF]
theorem od : ∀ l m, cI (l ++ m) = cI l + cI m
  | [], m => by simp [cI]
  | x :: l, m => by simp only [List.cons_append, cI, od l m]; omega
theorem t7 : ∀ l m, eT (l ++ m) = max (eT l) (eT m)
  | [], m => by simp [eT]
  | x :: l, m => by simp only [List.cons_append, eT, t7 l m]; omega
theorem oe {x : ak} : ∀ {l : List ak}, x ∈ l → cq x ≤ cI l
  | y :: l, h => by
    rw [cI]
    rcases List.mem_cons.1 h with rfl | h
    · omega
    · have := oe h; omega
theorem je {x : ak} : ∀ {l : List ak}, x ∈ l → di x ≤ eT l
  | y :: l, h => by
    rw [eT]
    rcases List.mem_cons.1 h with rfl | h
    · omega
    · have := je h; omega
theorem kS (p : ak) : 1 ≤ di p := by rw [jd]; omega
theorem t8 : ∀ l : List ak, (∀ x ∈ l, di x ≤ cq x) → eT l ≤ cI l
  | [], _ => by simp [eT]
  | x :: l, h => by
    have h1 := h x (by simp)
    have h2 := t8 l fun y hy => h y (by simp [hy])
    rw [eT, cI]; omega
theorem ua (p : ak) : di p ≤ cq p := by
  refine ze (P := fun p => di p ≤ cq p) (fun p ih => ?_) p
  have := t8 p.Kids ih
  rw [jd, gB]; omega
theorem qH {α : Type} {l : List α} {i : Nat} {x : α} (h : l[i]? = some x) : l = l.take i ++ x :: l.drop (i + 1) := by
  have hi := (List.getElem?_eq_some_iff.1 h).1
  have hx : l[i] = x := (List.getElem?_eq_some_iff.1 h).2
  rw [← hx, List.getElem_cons_drop, List.take_append_drop]
theorem zf {l : List ak} {i : Nat} {x : ak} (h : l[i]? = some x) : cI (l.take i) + cq x ≤ cI l := by
  have e := congrArg cI (qH h)
  rw [od, cI] at e
  omega
def cY : Nat := 100000
theorem qI : ∀ k p, di p ≤ k → cq p ≤ cY → i4 k p = some (cq p : Int)
  | 0, p, h, _ => by have := kS p; omega
  | k + 1, p, h, hb => by
    show lX (i4 k) p = _
    have hp := jd p; have hs := gB p
    unfold cY at hb
    obtain ⟨s', e, hP⟩ := jP (p8 p (i4 k)) p.Kids (fun l s => s = 1 + (cI l : Int)) 1 (by simp [cI]) (fun i x s hx hP => by
      have hm := cU hx
      have h1 := je hm; have h2 := oe hm; have h3 := zf hx
      refine ⟨1 + (cI (p.Kids.take i ++ [x]) : Int), ?_, rfl⟩
      simp only [p8, bW, hx, Option.bind_some]
      rw [qI k x (by omega) (by unfold cY; omega)]
      simp only [Option.bind_some]
      rw [hP, jO (by omega) (by omega), od]
      simp [cI]; omega)
    simp only [lX, e, Option.bind_some]
    rw [hP, hs]; push_cast; rfl
theorem qJ : ∀ k p, di p ≤ k → cq p ≤ cY → ja k p = some (di p : Int)
  | 0, p, h, _ => by have := kS p; omega
  | k + 1, p, h, hb => by
    show lY (ja k) p = _
    have hp := jd p; have hs := gB p
    unfold cY at hb
    have hd := ua p
    obtain ⟨s', e, hP⟩ := jP (qa p (ja k)) p.Kids (fun l s => s = (eT l : Int)) 0 (by simp [eT]) (fun i x s hx hP => by
      have hm := cU hx
      have h1 := je hm; have h2 := oe hm
      refine ⟨(eT (p.Kids.take i ++ [x]) : Int), ?_, rfl⟩
      simp only [qa, bW, hx, Option.bind_some]
      rw [qJ k x (by omega) (by unfold cY; omega)]
      simp only [Option.bind_some]
      rw [hP, t7]
      simp only [fI, eT]
      split <;> simp <;> omega)
    simp only [lY, e, Option.bind_some]
    rw [hP, hp, jO (by omega) (by omega)]; push_cast; rw [Int.add_comm]
theorem ub : ∀ k, l9 k = i4 k
  | 0 => rfl
  | k + 1 => by show ql (l9 k) = lX (i4 k); rw [ub k]; rfl
theorem uc : ∀ k, ma k = ja k
  | 0 => rfl
  | k + 1 => by show qm (ma k) = lY (ja k); rw [uc k]; rfl
theorem jX {p : ak} (h : cq p ≤ cY) : di p ≤ cW := by
  have := ua p
  unfold cY at h
  obtain ⟨m, hm⟩ := lP 1000000 (by omega)
  omega
theorem zg {p : ak} (h : cq p ≤ cY) : p9 p = some (cq p : Int) := qI _ _ (jX h) h
theorem zh {p : ak} (h : cq p ≤ cY) : qb p = some (di p : Int) := qJ _ _ (jX h) h
theorem zj {p : ak} (h : cq p ≤ cY) : nL p = some (cq p : Int) := by unfold nL; rw [ub]; exact qI _ _ (jX h) h
theorem zk {p : ak} (h : cq p ≤ cY) : nM p = some (di p : Int) := by unfold nM; rw [uc]; exact qJ _ _ (jX h) h
def kT {α β : Type} (step : List α → α → List α → Option β) : List α → List α → Option β
  | _, [] => none
  | pre, x :: r => match step pre x r with
    | some b => some b
    | none => kT step (pre ++ [x]) r
theorem ud {α β : Type} (f : Int → Unit → Option (Br Unit β)) (step : List α → α → List α → Option β) {l : List α} (h : ∀ pre x r, l = pre ++ x :: r → f (pre.length : Int) () = some (hZ (step pre x r))) :
    ∀ suf pre, l = pre ++ suf → bV f (bu (pre.length : Int) (l.length : Int)) () = some (fX (kT step pre suf))
  | [], pre, e => by
    have : l.length = pre.length := by rw [e]; simp
    rw [this, kH]; rfl
  | x :: r, pre, e => by
    have hl : l.length = pre.length + (r.length + 1) := by rw [e]; simp
    rw [hl, kG]
    simp only [bV]
    rw [h pre x r e]
    simp only [Option.bind_some, kT]
    cases step pre x r with
    | some b => rfl
    | none =>
      show bV f _ () = _
      have := ud f step h r (pre ++ [x]) (by rw [e]; simp)
      rw [hl] at this
      simpa using this
theorem ue {α β : Type} (f : Int → Unit → Option (Br Unit β)) (step : List α → α → List α → Option β) (l : List α) (h : ∀ pre x r, l = pre ++ x :: r → f (pre.length : Int) () = some (hZ (step pre x r))) :
    bV f (bu 0 (l.length : Int)) () = some (fX (kT step [] l)) := by
  have := ud f step h l [] rfl
  simpa using this
theorem qK {α β : Type} (p : α → Bool) (b : β) : ∀ (suf pre : List α), kT (fun _ x _ => if p x then some b else none) pre suf = if suf.any p then some b else none
  | [], pre => rfl
  | x :: r, pre => by
    simp only [kT, List.any_cons]
    by_cases h : p x = true
    · simp [h]
    · simp [h, qK p b r]
theorem uf {α : Type} {l pre r : List α} {x : α} (e : l = pre ++ x :: r) : aW l (pre.length : Int) = some x := by
  rw [bW, e]; simp
theorem qL {α : Type} {l pre r : List α} {x : α} (e : l = pre ++ x :: r) : x ∈ l := by rw [e]; simp
end Go.AM
end
section
set_option linter.unusedVariables false
set_option linter.unusedSimpArgs false
namespace Go.AM
open Go
theorem qM {α : Type} (p : α → Bool) : ∀ l : List α, (!(l.any fun x => !p x)) = l.all p
  | [] => rfl
  | x :: l => by simp only [List.any_cons, List.all_cons, Bool.not_or, Bool.not_not, qM p l]
theorem ug : ∀ k p, di p ≤ k → kL k p = some (ep p)
  | 0, p, h => by have := kS p; omega
  | k + 1, p, h => by
    show nN (kL k) p = _
    have hp := jd p
    have hc : bV (qo p (kL k)) (bu 0 (p.Kids.length : Int)) () = some (fX (if p.Kids.any (fun x => !ep x) then some (Sum.inr false) else none)) := by
      rw [← qK (fun x => !ep x) (Sum.inr false) p.Kids []]
      refine ue _ _ _ fun pre x r e => ?_
      have := je (qL e)
      simp only [qo, uf e, Option.bind_some]
      rw [ug k x (by omega)]
      simp only [Option.bind_some]
      cases ep x <;> rfl
    rw [kR]
    simp only [nN, hc, Option.bind_some, ← qM]
    by_cases h5 : p.Op = 5
    · simp [h5]
    by_cases hn : p.Op < 0
    · have h6 : p.Op ≠ 6 := by omega
      have h7 : p.Op ≠ 7 := by omega
      have : ¬ (0 ≤ p.Op ∧ p.Op ≤ 4) := by omega
      simp [h5, hn, h6, h7, this]
    by_cases hb : p.Op > 7
    · have h6 : p.Op ≠ 6 := by omega
      have h7 : p.Op ≠ 7 := by omega
      have : ¬ (0 ≤ p.Op ∧ p.Op ≤ 4) := by omega
      simp [h5, hn, hb, h6, h7, this]
    have e5 : ((p.Op == 5) || ((decide (p.Op < 0)) || (decide (p.Op > 7)))) = false := by simp [h5, hn, hb]
    rw [e5]
    by_cases h67 : p.Op = 6 ∨ p.Op = 7
    · have e6 : ((p.Op == 6) || (p.Op == 7)) = true := by simpa using h67
      have : ¬ (0 ≤ p.Op ∧ p.Op ≤ 4) := by omega
      rw [e6, if_neg this, if_pos h67]
      cases p.Kids.any (fun x => !ep x) <;> rfl
    · have e6 : ((p.Op == 6) || (p.Op == 7)) = false := by simpa using h67
      have : (0 ≤ p.Op ∧ p.Op ≤ 4) := by omega
      rw [e6, if_pos this]
      rfl
theorem zl {p : ak} (h : cq p ≤ cY) : qp p = some (ep p) := ug _ _ (jX h)
theorem qN {p k : ak} (hk : k ∈ p.Kids) (h : cq p ≤ cY) : cq k ≤ cY := by
  have := oe hk; rw [gB] at h; omega
theorem mf {l : List ak} : ((l.length : Int) == 0) = decide (l.length = 0) := by
  rw [Bool.eq_iff_iff]; simp
theorem qO (n : Int) : ∀ k p, di p ≤ k → cq p ≤ cY → kM k p n = some (cC n p)
  | 0, p, h, _ => by have := kS p; omega
  | k + 1, p, h, hb => by
    show nP (kM k) p n = _
    have hp := jd p
    have hc : bV (qr p n (kM k)) (bu 0 (p.Kids.length : Int)) () = some (fX (if p.Kids.any (fun x => !cC n x) then some false else none)) := by
      rw [← qK (fun x => !cC n x) false p.Kids []]
      refine ue _ _ _ fun pre x r e => ?_
      have := je (qL e)
      simp only [qr, uf e, Option.bind_some]
      rw [qO n k x (by omega) (qN (qL e) hb)]
      simp only [Option.bind_some]
      cases cC n x <;> rfl
    rw [fL]
    simp only [nP, hc, Option.bind_some]
    by_cases h0 : p.Op = 0
    · simp [h0, Bool.decide_and, mf]
      all_goals (rw [Bool.eq_iff_iff]; simp)
    by_cases h1 : p.Op = 1
    · simp [h1, Bool.decide_and, mf]
      all_goals (rw [Bool.eq_iff_iff]; simp)
    by_cases h2 : p.Op = 2
    · simp [h2, Bool.decide_and, mf]
      all_goals (rw [Bool.eq_iff_iff]; simp)
    by_cases h3 : p.Op = 3
    · simp [h3, Bool.decide_and, mf]
      all_goals (rw [Bool.eq_iff_iff]; simp)
    by_cases h5 : p.Op = 5
    · simp [h5, Bool.decide_and, mf]
      all_goals (rw [Bool.eq_iff_iff]; simp)
    by_cases h4 : p.Op = 4
    · by_cases hl : p.Kids.length = 1
      · obtain ⟨x, hx⟩ := List.length_eq_one_iff.1 hl
        have hm : x ∈ p.Kids := by rw [hx]; simp
        have := je hm
        have e1 := zl (qN hm hb)
        have e2 := qO n k x (by omega) (qN hm hb)
        simp only [h4, hx]
        simp [aW, e1, e2]
        by_cases hf : p.F = 0
        · by_cases hn : p.N = 0
          · cases ep x <;> cases cC n x <;> simp [hf, hn]
          · simp [hf, hn]
        · simp [hf]
      · have : ¬ ((p.Kids.length : Int) = 1) := by omega
        simp [h4, hl, this]
    by_cases h67 : p.Op = 6 ∨ p.Op = 7
    · have e67 : ((if (p.Op == 6) then some (p.Op == 6) else some (p.Op == 7)) : Option Bool) = some true := by rcases h67 with h | h <;> simp [h]
      rw [e67]
      simp only [Option.bind_some]
      by_cases hl : 2 ≤ p.Kids.length
      · have : ¬ (p.Kids.length : Int) < 2 := by omega
        by_cases hf : p.F = 0
        · by_cases hn : p.N = 0
          · rw [show (p.Op == 0) = false by simpa using h0, show (p.Op == 1) = false by simpa using h1, show (p.Op == 2) = false by simpa using h2, show (p.Op == 3) = false by simpa using h3, show (p.Op == 5) = false by simpa using h5, show (p.Op == 4) = false by simpa using h4]
            rw [show (decide ((p.Kids.length : Int) < 2)) = false by simpa using this, hf, hn, if_neg (show ¬ (p.Op = 0 ∨ p.Op = 1) by omega), if_neg h4, if_pos h67, show (decide (2 ≤ p.Kids.length ∧ (0 : Int) = 0 ∧ (0 : Int) = 0)) = true by simpa using hl]
            rw [← qM]
            generalize p.Kids.any (fun x => !cC n x) = b
            cases b <;> simp [fX]
          · simp [h0, h1, h2, h3, h5, h4, h67, hl, this, hf, hn]
        · simp [h0, h1, h2, h3, h5, h4, h67, hl, this, hf]
      · have : (p.Kids.length : Int) < 2 := by omega
        simp [h0, h1, h2, h3, h5, h4, h67, hl, this]
    have h6 : p.Op ≠ 6 := fun h => h67 (.inl h)
    have h7 : p.Op ≠ 7 := fun h => h67 (.inr h)
    simp [h0, h1, h4, h6, h7, h2, h5, h3]
theorem zm {p : ak} (n : Int) (h : cq p ≤ cY) : qt p n = some (cC n p) := qO n _ _ (jX h) h
def jY (p : ak) : Bool := decide (cq p ≤ 300 ∧ di p ≤ 20) && cC 4 p
theorem zn {p : ak} (h : cq p ≤ cY) : nS (jR.mk [0, 0, 0, 0] p []) = some (if cq p ≤ 300 ∧ di p ≤ 20 then if cC 4 p then 0 else 11 else 2) := by
  have e3 := zm 4 h
  simp only [nS, zj h, zk h]
  by_cases h1 : cq p ≤ 300
  · have : ¬ (cq p : Int) > 300 := by omega
    by_cases h2 : di p ≤ 20
    · have h2' : ¬ (di p : Int) > 20 := by omega
      cases hf : cC 4 p <;> simp [h1, h2, this, h2', e3, hf, bu, bV]
    · have h2' : (di p : Int) > 20 := by omega
      simp [h1, h2, this, h2']
  · have : (cq p : Int) > 300 := by omega
    simp [h1, this]
theorem zo : eR 4 (0 : Int) = some [0, 0, 0, 0] := rfl
theorem zp {p : ak} (h : cq p ≤ cY) : nU p = some (jY p) := by
  simp only [nU, zo, Option.bind_some, zn h, jY]
  by_cases c : cq p ≤ 300 ∧ di p ≤ 20
  · cases hf : cC 4 p <;> simp [c]
  · simp [c]
end Go.AM
end
