import Derived.Test.YtnnkfanmokeiaaaAmPv
import Derived.Test.YtnnkfanmokeiaaaRtT
/-  Several texts in one. -/
section
set_option linter.unusedVariables false
set_option linter.unusedSimpArgs false
namespace Go.AM
open Go
theorem zm {P : aj → Prop} (h : ∀ p, (∀ k ∈ p.Kids, P k) → P p) : ∀ p, P p := by
  intro p
  refine aj.rec (motive_1 := P) (motive_2 := fun l => ∀ k ∈ l, P k) (fun o f n l ih => h _ ih) (fun k hk => by cases hk) (fun x l hx hl k hk => ?_) p
  rcases List.mem_cons.1 hk with rfl | hk
  · exact hx
  · exact hl k hk
noncomputable instance polDec : DecidableEq aj := fun a b => Classical.propDecidable (a = b)
mutual
def cA : aj → Nat
  | ⟨_, _, _, l⟩ => 1 + cO l
def cO : List aj → Nat
  | [] => 0
  | x :: l => cA x + cO l
end
mutual
def dm : aj → Nat
  | ⟨_, _, _, l⟩ => 1 + eZ l
def eZ : List aj → Nat
  | [] => 0
  | x :: l => max (dm x) (eZ l)
end
mutual
def eB : aj → Bool
  | ⟨o, _, _, l⟩ => if 0 ≤ o ∧ o ≤ 4 then true else if o = 6 ∨ o = 7 then kT l else false
def kT : List aj → Bool
  | [] => true
  | x :: l => eB x && kT l
end
mutual
def cJ (n : Int) : aj → Bool
  | ⟨o, f, m, l⟩ =>
    if o = 0 ∨ o = 1 then decide (l.length = 0 ∧ f = 0 ∧ m = 0)
    else if o = 4 then decide (l.length = 1 ∧ f = 0 ∧ m = 0) && kT l && kU n l
    else if o = 6 ∨ o = 7 then decide (2 ≤ l.length ∧ f = 0 ∧ m = 0) && kU n l
    else if o = 2 then decide (l.length = 0 ∧ 0 ≤ f ∧ f < 8)
    else if o = 5 then decide (l.length = 0 ∧ 1 ≤ f ∧ f < 8)
    else if o = 3 then decide (l.length = 0 ∧ 0 ≤ f ∧ f < n)
    else false
def kU (n : Int) : List aj → Bool
  | [] => true
  | x :: l => cJ n x && kU n l
end
theorem gF (p : aj) : cA p = 1 + cO p.Kids := by cases p; rw [cA]
theorem jh (p : aj) : dm p = 1 + eZ p.Kids := by cases p; rw [dm]
theorem qE : ∀ l, kT l = l.all eB
  | [] => by rw [kT]; rfl
  | x :: l => by rw [kT, qE l]; rfl
theorem uj (n : Int) : ∀ l, kU n l = l.all (cJ n)
  | [] => by rw [kU]; rfl
  | x :: l => by rw [kU, uj n l]; rfl
theorem kV (p : aj) : eB p = if 0 ≤ p.Op ∧ p.Op ≤ 4 then true else if p.Op = 6 ∨ p.Op = 7 then p.Kids.all eB else false := by
  cases p; rw [eB, qE]
theorem fP (n : Int) (p : aj) : cJ n p =
    if p.Op = 0 ∨ p.Op = 1 then decide (p.Kids.length = 0 ∧ p.F = 0 ∧ p.N = 0)
    else if p.Op = 4 then decide (p.Kids.length = 1 ∧ p.F = 0 ∧ p.N = 0) && p.Kids.all eB && p.Kids.all (cJ n)
    else if p.Op = 6 ∨ p.Op = 7 then decide (2 ≤ p.Kids.length ∧ p.F = 0 ∧ p.N = 0) && p.Kids.all (cJ n)
    else if p.Op = 2 then decide (p.Kids.length = 0 ∧ 0 ≤ p.F ∧ p.F < 8)
    else if p.Op = 5 then decide (p.Kids.length = 0 ∧ 1 ≤ p.F ∧ p.F < 8)
    else if p.Op = 3 then decide (p.Kids.length = 0 ∧ 0 ≤ p.F ∧ p.F < n)
    else false := by
  cases p; rw [cJ, uj, qE]
theorem oi : ∀ l m, cO (l ++ m) = cO l + cO m
  | [], m => by simp [cO]
  | x :: l, m => by simp only [List.cons_append, cO, oi l m]; omega
theorem uk : ∀ l m, eZ (l ++ m) = max (eZ l) (eZ m)
  | [], m => by simp [eZ]
  | x :: l, m => by simp only [List.cons_append, eZ, uk l m]; omega
theorem om {x : aj} : ∀ {l : List aj}, x ∈ l → cA x ≤ cO l
  | y :: l, h => by
    rw [cO]
    rcases List.mem_cons.1 h with rfl | h
    · omega
    · have := om h; omega
theorem ji {x : aj} : ∀ {l : List aj}, x ∈ l → dm x ≤ eZ l
  | y :: l, h => by
    rw [eZ]
    rcases List.mem_cons.1 h with rfl | h
    · omega
    · have := ji h; omega
theorem kW (p : aj) : 1 ≤ dm p := by rw [jh]; omega
theorem um : ∀ l : List aj, (∀ x ∈ l, dm x ≤ cA x) → eZ l ≤ cO l
  | [], _ => by simp [eZ]
  | x :: l, h => by
    have h1 := h x (by simp)
    have h2 := um l fun y hy => h y (by simp [hy])
    rw [eZ, cO]; omega
theorem uo (p : aj) : dm p ≤ cA p := by
  refine zm (P := fun p => dm p ≤ cA p) (fun p ih => ?_) p
  have := um p.Kids ih
  rw [jh, gF]; omega
theorem qF {α : Type} {l : List α} {i : Nat} {x : α} (h : l[i]? = some x) : l = l.take i ++ x :: l.drop (i + 1) := by
  have hi := (List.getElem?_eq_some_iff.1 h).1
  have hx : l[i] = x := (List.getElem?_eq_some_iff.1 h).2
  rw [← hx, List.getElem_cons_drop, List.take_append_drop]
theorem zn {l : List aj} {i : Nat} {x : aj} (h : l[i]? = some x) : cO (l.take i) + cA x ≤ cO l := by
  have e := congrArg cO (qF h)
  rw [oi, cO] at e
  omega
def c7 : Nat := 100000
theorem qH : ∀ k p, dm p ≤ k → cA p ≤ c7 → jf k p = some (cA p : Int)
  | 0, p, h, _ => by have := kW p; omega
  | k + 1, p, h, hb => by
    show mb (jf k) p = _
    have hp := jh p; have hs := gF p
    unfold c7 at hb
    obtain ⟨s', e, hP⟩ := jS (qc p (jf k)) p.Kids (fun l s => s = 1 + (cO l : Int)) 1 (by simp [cO]) (fun i x s hx hP => by
      have hm := c9 hx
      have h1 := ji hm; have h2 := om hm; have h3 := zn hx
      refine ⟨1 + (cO (p.Kids.take i ++ [x]) : Int), ?_, rfl⟩
      simp only [qc, bZ, hx, Option.bind_some]
      rw [qH k x (by omega) (by unfold c7; omega)]
      simp only [Option.bind_some]
      rw [hP, tU (by omega) (by omega), oi]
      simp [cO]; omega)
    simp only [mb, e, Option.bind_some]
    rw [hP, hs]; push_cast; rfl
theorem qI : ∀ k p, dm p ≤ k → cA p ≤ c7 → jg k p = some (dm p : Int)
  | 0, p, h, _ => by have := kW p; omega
  | k + 1, p, h, hb => by
    show mc (jg k) p = _
    have hp := jh p; have hs := gF p
    unfold c7 at hb
    have hd := uo p
    obtain ⟨s', e, hP⟩ := jS (qf p (jg k)) p.Kids (fun l s => s = (eZ l : Int)) 0 (by simp [eZ]) (fun i x s hx hP => by
      have hm := c9 hx
      have h1 := ji hm; have h2 := om hm
      refine ⟨(eZ (p.Kids.take i ++ [x]) : Int), ?_, rfl⟩
      simp only [qf, bZ, hx, Option.bind_some]
      rw [qI k x (by omega) (by unfold c7; omega)]
      simp only [Option.bind_some]
      rw [hP, uk]
      simp only [fM, eZ]
      split <;> simp <;> omega)
    simp only [mc, e, Option.bind_some]
    rw [hP, hp, tU (by omega) (by omega)]; push_cast; rw [Int.add_comm]
theorem ur : ∀ k, md k = jf k
  | 0 => rfl
  | k + 1 => by show qk (md k) = mb (jf k); rw [ur k]; rfl
theorem ut : ∀ k, mf k = jg k
  | 0 => rfl
  | k + 1 => by show ql (mf k) = mc (jg k); rw [ut k]; rfl
theorem j1 {p : aj} (h : cA p ≤ c7) : dm p ≤ cX := by
  have := uo p
  unfold c7 at h
  obtain ⟨m, hm⟩ := lT 1000000 (by omega)
  omega
theorem zo {p : aj} (h : cA p ≤ c7) : qe p = some (cA p : Int) := qH _ _ (j1 h) h
theorem zp {p : aj} (h : cA p ≤ c7) : qg p = some (dm p : Int) := qI _ _ (j1 h) h
theorem zr {p : aj} (h : cA p ≤ c7) : nM p = some (cA p : Int) := by unfold nM; rw [ur]; exact qH _ _ (j1 h) h
theorem zt {p : aj} (h : cA p ≤ c7) : nN p = some (dm p : Int) := by unfold nN; rw [ut]; exact qI _ _ (j1 h) h
def jk {α β : Type} (step : List α → α → List α → Option β) : List α → List α → Option β
  | _, [] => none
  | pre, x :: r => match step pre x r with
    | some b => some b
    | none => jk step (pre ++ [x]) r
theorem uv {α β : Type} (f : Int → Unit → Option (Br Unit β)) (step : List α → α → List α → Option β) {l : List α} (h : ∀ pre x r, l = pre ++ x :: r → f (pre.length : Int) () = some (gD (step pre x r))) :
    ∀ suf pre, l = pre ++ suf → bS f (bx (pre.length : Int) (l.length : Int)) () = some (fZ (jk step pre suf))
  | [], pre, e => by
    have : l.length = pre.length := by rw [e]; simp
    rw [this, kM]; rfl
  | x :: r, pre, e => by
    have hl : l.length = pre.length + (r.length + 1) := by rw [e]; simp
    rw [hl, kL]
    simp only [bS]
    rw [h pre x r e]
    simp only [Option.bind_some, jk]
    cases step pre x r with
    | some b => rfl
    | none =>
      show bS f _ () = _
      have := uv f step h r (pre ++ [x]) (by rw [e]; simp)
      rw [hl] at this
      simpa using this
theorem qJ {α β : Type} (f : Int → Unit → Option (Br Unit β)) (step : List α → α → List α → Option β) (l : List α) (h : ∀ pre x r, l = pre ++ x :: r → f (pre.length : Int) () = some (gD (step pre x r))) :
    bS f (bx 0 (l.length : Int)) () = some (fZ (jk step [] l)) := by
  have := uv f step h l [] rfl
  simpa using this
theorem qK {α β : Type} (p : α → Bool) (b : β) : ∀ (suf pre : List α), jk (fun _ x _ => if p x then some b else none) pre suf = if suf.any p then some b else none
  | [], pre => rfl
  | x :: r, pre => by
    simp only [jk, List.any_cons]
    by_cases h : p x = true
    · simp [h]
    · simp [h, qK p b r]
theorem qL {α : Type} {l pre r : List α} {x : α} (e : l = pre ++ x :: r) : bd l (pre.length : Int) = some x := by
  rw [bZ, e]; simp
theorem qM {α : Type} {l pre r : List α} {x : α} (e : l = pre ++ x :: r) : x ∈ l := by rw [e]; simp
end Go.AM
end
section
set_option linter.unusedVariables false
set_option linter.unusedSimpArgs false
namespace Go.AM
open Go
theorem qN {α : Type} (p : α → Bool) : ∀ l : List α, (!(l.any fun x => !p x)) = l.all p
  | [] => rfl
  | x :: l => by simp only [List.any_cons, List.all_cons, Bool.not_or, Bool.not_not, qN p l]
theorem uw : ∀ k p, dm p ≤ k → kQ k p = some (eB p)
  | 0, p, h => by have := kW p; omega
  | k + 1, p, h => by
    show nP (kQ k) p = _
    have hp := jh p
    have hc : bS (qm p (kQ k)) (bx 0 (p.Kids.length : Int)) () = some (fZ (if p.Kids.any (fun x => !eB x) then some (Sum.inr false) else none)) := by
      rw [← qK (fun x => !eB x) (Sum.inr false) p.Kids []]
      refine qJ _ _ _ fun pre x r e => ?_
      have := ji (qM e)
      simp only [qm, qL e, Option.bind_some]
      rw [uw k x (by omega)]
      simp only [Option.bind_some]
      cases eB x <;> rfl
    rw [kV]
    simp only [nP, hc, Option.bind_some, ← qN]
    by_cases h5 : p.Op = 5
    · simp [h5]
    by_cases hn : p.Op < 0
    · have h6 : p.Op ≠ 6 := by omega
      have h7 : p.Op ≠ 7 := by omega
      have : ¬ (0 ≤ p.Op ∧ p.Op ≤ 4) := by omega
      simp [h5, hn, h6, h7, this]
    by_cases hb : p.Op > 7
    · have h6 : p.Op ≠ 6 := by omega
      have h7 : p.Op ≠ 7 := by omega
      have : ¬ (0 ≤ p.Op ∧ p.Op ≤ 4) := by omega
      simp [h5, hn, hb, h6, h7, this]
    have e5 : ((p.Op == 5) || ((decide (p.Op < 0)) || (decide (p.Op > 7)))) = false := by simp [h5, hn, hb]
    rw [e5]
    by_cases h67 : p.Op = 6 ∨ p.Op = 7
    · have e6 : ((p.Op == 6) || (p.Op == 7)) = true := by simpa using h67
      have : ¬ (0 ≤ p.Op ∧ p.Op ≤ 4) := by omega
      rw [e6, if_neg this, if_pos h67]
      cases p.Kids.any (fun x => !eB x) <;> rfl
    · have e6 : ((p.Op == 6) || (p.Op == 7)) = false := by simpa using h67
      have : (0 ≤ p.Op ∧ p.Op ≤ 4) := by omega
      rw [e6, if_pos this]
      rfl
theorem zu {p : aj} (h : cA p ≤ c7) : qo p = some (eB p) := uw _ _ (j1 h)
theorem qO {p k : aj} (hk : k ∈ p.Kids) (h : cA p ≤ c7) : cA k ≤ c7 := by
  have := om hk; rw [gF] at h; omega
theorem ml {l : List aj} : ((l.length : Int) == 0) = decide (l.length = 0) := by
  rw [Bool.eq_iff_iff]; simp
theorem qP (n : Int) : ∀ k p, dm p ≤ k → cA p ≤ c7 → kR k p n = some (cJ n p)
  | 0, p, h, _ => by have := kW p; omega
  | k + 1, p, h, hb => by
    show nQ (kR k) p n = _
    have hp := jh p
    have hc : bS (qp p n (kR k)) (bx 0 (p.Kids.length : Int)) () = some (fZ (if p.Kids.any (fun x => !cJ n x) then some false else none)) := by
      rw [← qK (fun x => !cJ n x) false p.Kids []]
      refine qJ _ _ _ fun pre x r e => ?_
      have := ji (qM e)
      simp only [qp, qL e, Option.bind_some]
      rw [qP n k x (by omega) (qO (qM e) hb)]
      simp only [Option.bind_some]
      cases cJ n x <;> rfl
    rw [fP]
    simp only [nQ, hc, Option.bind_some]
    by_cases h0 : p.Op = 0
    · simp [h0, Bool.decide_and, ml]
      all_goals (rw [Bool.eq_iff_iff]; simp)
    by_cases h1 : p.Op = 1
    · simp [h1, Bool.decide_and, ml]
      all_goals (rw [Bool.eq_iff_iff]; simp)
    by_cases h2 : p.Op = 2
    · simp [h2, Bool.decide_and, ml]
      all_goals (rw [Bool.eq_iff_iff]; simp)
    by_cases h3 : p.Op = 3
    · simp [h3, Bool.decide_and, ml]
      all_goals (rw [Bool.eq_iff_iff]; simp)
    by_cases h5 : p.Op = 5
    · simp [h5, Bool.decide_and, ml]
      all_goals (rw [Bool.eq_iff_iff]; simp)
    by_cases h4 : p.Op = 4
    · by_cases hl : p.Kids.length = 1
      · obtain ⟨x, hx⟩ := List.length_eq_one_iff.1 hl
        have hm : x ∈ p.Kids := by rw [hx]; simp
        have := ji hm
        have e1 := zu (qO hm hb)
        have e2 := qP n k x (by omega) (qO hm hb)
        simp only [h4, hx]
        simp [bd, e1, e2]
        by_cases hf : p.F = 0
        · by_cases hn : p.N = 0
          · cases eB x <;> cases cJ n x <;> simp [hf, hn]
          · simp [hf, hn]
        · simp [hf]
      · have : ¬ ((p.Kids.length : Int) = 1) := by omega
        simp [h4, hl, this]
    by_cases h67 : p.Op = 6 ∨ p.Op = 7
    · have e67 : ((if (p.Op == 6) then some (p.Op == 6) else some (p.Op == 7)) : Option Bool) = some true := by rcases h67 with h | h <;> simp [h]
      rw [e67]
      simp only [Option.bind_some]
      by_cases hl : 2 ≤ p.Kids.length
      · have : ¬ (p.Kids.length : Int) < 2 := by omega
        by_cases hf : p.F = 0
        · by_cases hn : p.N = 0
          · rw [show (p.Op == 0) = false by simpa using h0, show (p.Op == 1) = false by simpa using h1, show (p.Op == 2) = false by simpa using h2, show (p.Op == 3) = false by simpa using h3, show (p.Op == 5) = false by simpa using h5, show (p.Op == 4) = false by simpa using h4]
            rw [show (decide ((p.Kids.length : Int) < 2)) = false by simpa using this, hf, hn, if_neg (show ¬ (p.Op = 0 ∨ p.Op = 1) by omega), if_neg h4, if_pos h67, show (decide (2 ≤ p.Kids.length ∧ (0 : Int) = 0 ∧ (0 : Int) = 0)) = true by simpa using hl]
            rw [← qN]
            generalize p.Kids.any (fun x => !cJ n x) = b
            cases b <;> simp [fZ]
          · simp [h0, h1, h2, h3, h5, h4, h67, hl, this, hf, hn]
        · simp [h0, h1, h2, h3, h5, h4, h67, hl, this, hf]
      · have : (p.Kids.length : Int) < 2 := by omega
        simp [h0, h1, h2, h3, h5, h4, h67, hl, this]
    have h6 : p.Op ≠ 6 := fun h => h67 (.inl h)
    have h7 : p.Op ≠ 7 := fun h => h67 (.inr h)
    simp [h0, h1, h4, h6, h7, h2, h5, h3]
theorem zw {p : aj} (n : Int) (h : cA p ≤ c7) : qr p n = some (cJ n p) := qP n _ _ (j1 h) h
def j3 (p : aj) : Bool := decide (cA p ≤ 300 ∧ dm p ≤ 20) && cJ 4 p
theorem zy {p : aj} (h : cA p ≤ c7) : nU (jU.mk [0, 0, 0, 0] p []) = some (if cA p ≤ 300 ∧ dm p ≤ 20 then if cJ 4 p then 0 else 11 else 2) := by
  have e3 := zw 4 h
  simp only [nU, zr h, zt h]
  by_cases h1 : cA p ≤ 300
  · have : ¬ (cA p : Int) > 300 := by omega
    by_cases h2 : dm p ≤ 20
    · have h2' : ¬ (dm p : Int) > 20 := by omega
      cases hf : cJ 4 p <;> simp [h1, h2, this, h2', e3, hf, bx, bS]
    · have h2' : (dm p : Int) > 20 := by omega
      simp [h1, h2, this, h2']
  · have : (cA p : Int) > 300 := by omega
    simp [h1, this]
theorem zA : eX 4 (0 : Int) = some [0, 0, 0, 0] := rfl
theorem zB {p : aj} (h : cA p ≤ c7) : nV p = some (j3 p) := by
  simp only [nV, zA, Option.bind_some, zy h, j3]
  by_cases c : cA p ≤ 300 ∧ dm p ≤ 20
  · cases hf : cJ 4 p <;> simp [c]
  · simp [c]
end Go.AM
end
