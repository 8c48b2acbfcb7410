import Derived.Test.YtnnkfanmokeiaaaWM7
import Derived.Test.YtnnkfanmokeiaaaWtT
import Derived.Test.YtnnkfanmokeiaaaAmOr
import Derived.Test.YtnnkfanmokeiaaaWM1
/-  Several texts in one. -/
section
set_option linter.unusedVariables false
set_option linter.unusedSimpArgs false
namespace Go.AM
open Go
section
variable (st : List Int)
end
end Go.AM
end
section
namespace Go.AM
open Go
end Go.AM
end
section
set_option linter.unusedVariables false
set_option linter.unusedSimpArgs false
namespace Go.AM
open Go
section
variable (st : List Int)
def cE (p : ai) (q : Pk) : List Pk × Int := if ru p then (match ex st p q with | some l => (l, 0) | none => ([], 24)) else ([], 11)
theorem wc {p : ai} (h : b8 p ≤ da) (q : Pk) : j4 p st q = some (cE st p q) := by
  unfold j4 cE ru
  rw [vI h]
  simp only [Option.bind_some]
  by_cases h1 : b8 p ≤ 300 ∧ c9 p ≤ 20
  · by_cases h2 : cT 4 p = true
    · have hr : lz p st q = some (ex st p q) := rP st _ _ (j8 h) h2 q
      rw [if_pos h1, h2, hr]
      simp only [if_true]
      rw [if_neg (by decide), decide_eq_true h1]
      cases ex st p q <;> rfl
    · have h2 : cT 4 p = false := by simpa using h2
      rw [if_pos h1, h2]; simp
  · rw [if_neg h1, decide_eq_false h1]; simp
end
end Go.AM
end
section
set_option linter.unusedVariables false
set_option linter.unusedSimpArgs false
namespace Go.AM
open Go
theorem wd : nN = some true := by decide +kernel
theorem we (a b : api_Port) : (a == b) = (b == a) := by
  rw [Bool.eq_iff_iff, beq_iff_eq, beq_iff_eq]
  exact ⟨fun h => h.symm, fun h => h.symm⟩
def iE (p : api_Port) : List (A2 api_Port) → Option api_Port
  | [] => none
  | x :: l => if p = x.a0 then some x.a1 else if p = x.a1 then some x.a0 else iE p l
def oi : Option api_Port → api_Port × Bool
  | some r => (r, true)
  | none => (⟨0, 0⟩, false)
theorem rQ (p : api_Port) : ∀ l : List (A2 api_Port), fA (fun x => if p = x.a0 then some (x.a1, true) else if p = x.a1 then some (x.a0, true) else none) l = (iE p l).map fun r => (r, true)
  | [] => rfl
  | x :: l => by
    simp only [fA, iE]
    by_cases h : p = x.a0
    · simp [h]
    · by_cases k : p = x.a1
      · have : ¬ x.a1 = x.a0 := fun e => h (k.trans e)
        simp [k, this]
      · simp only [h, k, if_false]; exact rQ p l
theorem wg (t : api_Topo) (p : api_Port) : lC t p = some (oi (iE p t.Links)) := by
  unfold lC
  rw [kY _ (fun x : A2 api_Port => if p = x.a0 then some (x.a1, true) else if p = x.a1 then some (x.a0, true) else none) t.Links (fun j x hj => by
    simp only [qV, cS, hj, Option.bind_some]
    by_cases h : p = x.a0
    · simp [h, fB]
    · by_cases k : p = x.a1
      · have : ¬ x.a1 = x.a0 := fun e => h (k.trans e)
        simp [k, this, fB]
      · simp [h, k, fB])]
  rw [rQ]
  cases iE p t.Links <;> rfl
theorem om {α ρ : Type} (p : α → Bool) (r : ρ) : ∀ l : List α, fA (fun x => if p x then some r else none) l = if l.any p then some r else none
  | [] => rfl
  | x :: l => by
    simp only [fA, List.any_cons]
    by_cases h : p x = true
    · simp [h]
    · simp [h, om p r l]
theorem rR (p : api_Port → Bool) : ∀ (suf pre : List api_Port), (match dI (fun pre x _ => if p x then some (pre.length : Int) else none) pre suf with | some i => decide (i ≥ 0) | none => false) = suf.any p
  | [], pre => rfl
  | x :: r, pre => by
    simp only [dI, List.any_cons]
    by_cases h : p x = true
    · simp [h]
    · simp [h, rR p r]
theorem wh (t : api_Topo) (p : api_Port) : lD t p = some (t.Hosts.any fun x => x == p) := by
  unfold lD nI nH
  rw [j9 _ (fun pre x _ => if (x == p) then some (pre.length : Int) else none) t.Hosts (fun pre x r e => by
    simp only [qW, iC e, Option.bind_some]
    have e1 : (p == x) = (x == p) := we _ _
    rw [e1]
    by_cases c : (x == p) = true
    · simp only [c, if_true]; rfl
    · simp only [c, if_false]; rfl)]
  rw [← rR (fun x => x == p) t.Hosts []]
  cases dI (fun pre x _ => if (x == p) then some (pre.length : Int) else none) [] t.Hosts with
  | some i => rfl
  | none => rfl
def fj (l : List (A2 api_Port)) : List api_Port := l.flatMap fun x => [x.a0, x.a1]
theorem rS (t : api_Topo) (n : Int) : ∃ r, gf t n = some r := by
  unfold gf
  rw [j9 _ (fun pre x _ => if (x == n) then some (pre.length : Int) else none) t.Switches (fun pre x r e => by
    simp only [qY, iC e, Option.bind_some]
    by_cases c : (x == n) = true
    · simp only [c, if_true]; rfl
    · simp only [c, if_false]; rfl)]
  cases dI (fun pre x _ => if (x == n) then some (pre.length : Int) else none) [] t.Switches with
  | some i => exact ⟨_, rfl⟩
  | none => exact ⟨_, rfl⟩
theorem wi {t : api_Topo} (h1 : t.Links.length ≤ 24) (h2 : t.Hosts.length ≤ 24) : lI t = some (fj t.Links ++ t.Hosts) := by
  have lp : ∀ l : List (A2 api_Port), (fj l).length = 2 * l.length := fun l => by
    induction l with
    | nil => rfl
    | cons x l ih => simp only [fj, List.flatMap_cons, List.length_append, List.length_cons, List.length_nil] at ih ⊢; omega
  obtain ⟨z, e, hP⟩ := kW (nO t) t.Links (fun l s => s = fj l) [] rfl (fun i x s hx hP => by
    have hi : i < t.Links.length := by
      rcases Nat.lt_or_ge i t.Links.length with h | h
      · exact h
      · rw [List.getElem?_eq_none h] at hx; cases hx
    refine ⟨fj (t.Links.take i ++ [x]), ?_, rfl⟩
    simp only [nO, cS, hx, Option.bind_some]
    have hl := lp (t.Links.take i)
    rw [List.length_take] at hl
    rw [hP]
    unfold cx
    rw [if_pos (by simp only [List.length_cons, List.length_nil]; omega)]
    simp [fj])
  unfold lI
  rw [e]
  simp only [Option.bind_some, hP]
  have hl := lp t.Links
  unfold cx
  rw [if_pos (by omega)]
  rfl
theorem rT : ∀ (suf pre : List api_Port), dI (fun pre x _ => if pre.any (fun y => x == y) then some (11 : Int) else none) pre suf = none → pre.Nodup → (pre ++ suf).Nodup
  | [], pre, _, hp => by simpa using hp
  | x :: r, pre, h, hp => by
    simp only [dI] at h
    by_cases c : pre.any (fun y => x == y) = true
    · rw [if_pos c] at h; cases h
    · rw [if_neg c] at h
      have := rT r (pre ++ [x]) h (by
        rw [List.nodup_append]
        refine ⟨hp, by simp, fun a ha b hb e => ?_⟩
        rw [List.mem_singleton] at hb
        subst hb; subst e
        exact c (List.any_eq_true.2 ⟨a, ha, by simp⟩))
      simpa using this
theorem ot {α β : Type} {step : List α → α → List α → Option β} {v : β} (h : ∀ pre x r, step pre x r = none ∨ step pre x r = some v) : ∀ suf pre, dI step pre suf = none ∨ dI step pre suf = some v
  | [], pre => .inl rfl
  | x :: r, pre => by
    simp only [dI]
    rcases h pre x r with e | e
    · rw [e]; exact ot h r _
    · rw [e]; exact .inr rfl
theorem wj (t : api_Topo) : ∃ c, lJ t = some c ∧ (c = 0 → (fj t.Links).Nodup) := by
  unfold lJ
  by_cases hs : ((decide ((t.Switches.length : Int) > 12)) || ((decide ((t.Links.length : Int) > 24)) || (decide ((t.Hosts.length : Int) > 24)))) = true
  · rw [if_pos hs]; exact ⟨2, rfl, fun h => by cases h⟩
  rw [if_neg hs]
  simp only [Bool.or_eq_true, decide_eq_true_eq, not_or] at hs
  rw [j9 _ (fun pre x _ => if ((gf t x).getD 0 != (pre.length : Int)) then some 12 else none) t.Switches (fun pre x r e => by
    simp only [qZ, iC e, Option.bind_some]
    obtain ⟨v, hv⟩ := rS t x
    rw [hv]
    simp only [Option.bind_some, Option.getD_some]
    by_cases c : (v != (pre.length : Int)) = true
    · simp only [c, if_true]; rfl
    · simp only [c, if_false]; rfl)]
  simp only [Option.bind_some]
  rcases ot (v := (12 : Int)) (step := fun (pre : List Int) x (_ : List Int) => if ((gf t x).getD 0 != (pre.length : Int)) then some 12 else none) (fun pre x r => by by_cases c : ((gf t x).getD 0 != (pre.length : Int)) = true <;> simp [c]) t.Switches [] with e | e
  rotate_left
  · rw [e]; exact ⟨12, rfl, fun h => by cases h⟩
  rw [e]
  simp only [fM, wi (t := t) (by omega) (by omega), Option.bind_some]
  rw [kY _ (fun x : api_Port => if decide ((gf t x.Sw).getD 0 < 0) then some (12 : Int) else none) (fj t.Links ++ t.Hosts) (fun j x hj => by
    simp only [q8, cS, hj, Option.bind_some]
    obtain ⟨v, hv⟩ := rS t x.Sw
    rw [hv]
    simp only [Option.bind_some, Option.getD_some]
    by_cases c : v < 0
    · simp only [c, decide_true, if_true]; rfl
    · simp only [c, decide_false]; rfl)]
  simp only [Option.bind_some, om]
  by_cases c2 : ((fj t.Links ++ t.Hosts).any fun x => decide ((gf t x.Sw).getD 0 < 0)) = true
  · rw [if_pos c2]; exact ⟨12, rfl, fun h => by cases h⟩
  rw [if_neg c2]
  simp only [fM]
  rw [j9 _ (fun pre x _ => if pre.any (fun y => x == y) then some (11 : Int) else none) (fj t.Links ++ t.Hosts) (fun pre x r e => by
    simp only [rb]
    rw [kY _ (fun y : api_Port => if (x == y) then some (Br.ret (11 : Int)) else none) pre (fun j y hj => by
      have hj2 : (fj t.Links ++ t.Hosts)[j]? = some y := by
        rw [e, List.getElem?_append_left (by
          rcases Nat.lt_or_ge j pre.length with h | h
          · exact h
          · rw [List.getElem?_eq_none h] at hj; cases hj)]
        exact hj
      simp only [ra, iC e, cS, hj2, Option.bind_some]
      by_cases c : (x == y) = true
      · simp only [c, if_true]; rfl
      · simp only [c, if_false]; rfl)]
    rw [om]
    by_cases c : pre.any (fun y => x == y) = true
    · simp only [c, if_true]; rfl
    · simp only [c, if_false]; rfl)]
  simp only [Option.bind_some]
  cases hr : dI (fun pre x _ => if pre.any (fun y => x == y) then some (11 : Int) else none) [] (fj t.Links ++ t.Hosts) with
  | some v =>
    refine ⟨v, rfl, fun h => ?_⟩
    rcases ot (v := (11 : Int)) (step := fun (pre : List api_Port) x (_ : List api_Port) => if pre.any (fun y => x == y) then some (11 : Int) else none) (fun pre x r => by by_cases c : pre.any (fun y => x == y) = true <;> simp [c]) (fj t.Links ++ t.Hosts) [] with e | e
    · rw [e] at hr; cases hr
    · rw [e] at hr; cases hr; cases h
  | none =>
    refine ⟨0, rfl, fun _ => ?_⟩
    have := rT _ [] hr (by simp)
    rw [List.nil_append, List.nodup_append] at this
    exact this.1
end Go.AM
end
section
set_option linter.unusedVariables false
set_option linter.unusedSimpArgs false
namespace Go.AM
open Go
def nx (t : api_Topo) (q : Pk) : Pk × Int :=
  match iE ⟨q.a0, q.a1⟩ t.Links with
  | some r => (⟨r.Sw, r.Pt, q.a2, q.a3, q.a4, q.a5, q.a6, q.a7⟩, 0)
  | none => (q, if (t.Hosts.any fun x => x == ⟨q.a0, q.a1⟩) then 1 else 2)
theorem ou (t : api_Topo) (q : Pk) : jc t q = some (nx t q) := by
  unfold jc nx
  simp only [nF, Option.bind_some, wg, nG, wh]
  cases iE ⟨q.a0, q.a1⟩ t.Links with
  | some r => simp [oi]
  | none =>
    simp only [oi, Bool.false_eq_true, if_false]
    cases (t.Hosts.any fun x => x == ⟨q.a0, q.a1⟩) <;> rfl
theorem ov (st : List Int) (p : ai) (q : Pk) : gj (cE st p q).1 := by
  unfold cE
  split
  · cases h : ex st p q with
    | none => exact ⟨by simp, jk⟩
    | some l => exact oe st h
  · exact ⟨by simp, jk⟩
theorem wk {l : List Pk} {x : Pk} (h : x ∈ l) : lG l x = some true := by
  unfold lG nM
  have := j0 (nL l x) l (fun d _ => x ∉ d) (fun _ => False) (fun r => r ≥ 0) () (by simp) (fun i y s hy hd => by
    simp only [nL, cS, hy, Option.bind_some]
    by_cases e : x = y
    · subst e
      exact .inr (.inr ⟨(i : Int), by simp, by omega⟩)
    · have : (x == y) = false := by simpa using e
      rw [this]
      exact .inl ⟨(), rfl, by simp only [List.mem_append, List.mem_singleton, not_or]; exact ⟨hd, e⟩⟩)
  rcases this with ⟨s', e, h1 | h1⟩ | ⟨r, e, hr⟩
  · exact (h1 h).elim
  · exact h1.elim
  · rw [e]
    have : decide (r ≥ 0) = true := decide_eq_true hr
    simp [this]
section
variable (t : api_Topo) (p : ai) (st : List Int)
def Ch (l : List Pk) : Prop := ∀ (i : Nat) x y, l[i]? = some x → l[i + 1]? = some y → if (i + 1) % 2 = 0 then nx t x = (y, 0) else y ∈ (cE st p x).1
def Ov (l : List Pk) : Prop := (l.length % 2 = 1 → ∀ x, l.getLast? = some x → cE st p x = ([], 0)) ∧ (l.length % 2 = 0 → ∀ x, l.getLast? = some x → (nx t x).2 ≠ 0 ∨ l.length = 24)
theorem Ch.take {l : List Pk} (h : Ch t p st l) (n : Nat) : Ch t p st (l.take n) := fun i x y hx hy => by
  rw [List.getElem?_take] at hx hy
  split at hy
  · rename_i c; rw [if_pos (by omega)] at hx; exact h i x y hx hy
  · cases hy
theorem Ch.snoc {l : List Pk} {x y : Pk} (h : Ch t p st (l ++ [x])) (hy : if (l.length + 1) % 2 = 0 then nx t x = (y, 0) else y ∈ (cE st p x).1) : Ch t p st (l ++ [x] ++ [y]) := fun i a b ha hb => by
  by_cases c : i < l.length
  · rw [List.getElem?_append_left (by simp; omega)] at ha hb
    exact h i a b ha hb
  · have hi : i = l.length := by
      have := (List.getElem?_eq_some_iff.1 hb).1
      simp at this; omega
    subst hi
    have ea : a = x := by
      rw [List.getElem?_append_left (by simp), List.getElem?_append_right (by omega)] at ha
      simpa using ha.symm
    have eb : b = y := by
      rw [List.getElem?_append_right (by simp)] at hb
      simpa using hb.symm
    subst ea; subst eb
    exact hy
variable {p} in
theorem lR (hb : b8 p ≤ da) (q : Pk) : iA p st q = some (cE st p q) := by
  unfold iA
  rw [wc st hb q]; rfl
variable {p} in
theorem rU (hb : b8 p ≤ da) {l : List Pk} (h : Ch t p st l) (h0 : 0 < l.length) (h1 : l.length ≤ 24) : je t p st l = some true := by
  unfold je
  have := kX (lH t p st l) (fun _ _ => True) (fun _ => False) (fun _ => False) (l.length - 1) 1 () trivial (fun j s hj1 hj2 _ => by
    have hx : l[j - 1]? = some (l[j - 1]'(by omega)) := bV (by omega)
    have hy : l[j]? = some (l[j]'(by omega)) := bV (by omega)
    have hc := h (j - 1) _ _ hx (by rw [show j - 1 + 1 = j by omega]; exact hy)
    rw [show j - 1 + 1 = j by omega] at hc
    generalize (l[j - 1]'(by omega)) = x at hx hc
    generalize (l[j]'(by omega)) = y at hy hc
    have w1 : IntKind.i64.wrap ((j : Int) - 1) = ((j - 1 : Nat) : Int) := by rw [iD (by omega) (by omega)]; omega
    refine .inl ⟨(), ?_, trivial⟩
    simp only [lH, w1, cS, hx, hy, Option.bind_some, ou, lR st hb]
    by_cases c : j % 2 = 0
    · rw [if_pos c] at hc
      have e : ((j : Int).tmod 2 == 0) = true := by
        have : (j : Int).tmod 2 = ((j % 2 : Nat) : Int) := rfl
        rw [this, c]; rfl
      rw [e, hc]
      simp
    · rw [if_neg c] at hc
      have e : ((j : Int).tmod 2 == 0) = false := by
        have : (j : Int).tmod 2 = ((j % 2 : Nat) : Int) := rfl
        rw [this]; simp; omega
      rw [e, wk hc]
      simp)
  rw [show 1 + (l.length - 1) = l.length by omega] at this
  rcases this with ⟨s', e, _⟩ | ⟨_, _, h⟩
  · have e : bT (lH t p st l) (bJ 1 (l.length : Int)) () = some (.done s') := e
    rw [e]
    have a1 : decide ((l.length : Int) > 0) = true := decide_eq_true (by omega)
    have a2 : decide ((l.length : Int) ≤ 24) = true := decide_eq_true (by omega)
    simp [a1, a2, h0]
  · exact h.elim
variable {p} in
theorem wl (hb : b8 p ≤ da) {l : List Pk} (h : Ch t p st l) (h0 : 0 < l.length) (h1 : l.length ≤ 24) (ho : Ov t p st l) : jf t p st l = some true := by
  unfold jf
  rw [rU t st hb h h0 h1]
  have w1 : IntKind.i64.wrap ((l.length : Int) - 1) = ((l.length - 1 : Nat) : Int) := by rw [iD (by omega) (by omega)]; omega
  have hx : l[l.length - 1]? = some (l[l.length - 1]'(by omega)) := bV (by omega)
  have hl : l.getLast? = some (l[l.length - 1]'(by omega)) := by rw [List.getLast?_eq_getElem?]; exact hx
  generalize (l[l.length - 1]'(by omega)) = x at hx hl
  simp only [Option.bind_some, Bool.not_true, Bool.false_eq_true, if_false, w1, cS, hx]
  have ht : (l.length : Int).tmod 2 = ((l.length % 2 : Nat) : Int) := rfl
  by_cases c : l.length % 2 = 1
  · have e : ((l.length : Int).tmod 2 == 1) = true := by rw [ht, c]; rfl
    rw [e, if_pos rfl, lR st hb, ho.1 c x hl]; rfl
  · have c0 : l.length % 2 = 0 := by omega
    have e : ((l.length : Int).tmod 2 == 1) = false := by rw [ht, c0]; rfl
    rw [e, if_neg (by simp), ou]
    rcases ho.2 c0 x hl with h | h
    · have : ((nx t x).2 != 0) = true := by simpa using h
      simp [this]
    · have : ((l.length : Int) == 24) = true := by rw [h]; rfl
      simp [this]
def Bf (a b : List Pk) : Prop := ∃ c x y r s, a = c ++ x :: r ∧ b = c ++ y :: s ∧ fh x y
theorem wm {a b : List Pk} (h : Bf a b) (hl : a.length ≤ 24) : j6 a b = some true := by
  obtain ⟨c, x, y, r, s, rfl, rfl, hxy⟩ := h
  unfold j6
  have hcl : c.length < 24 := by simp at hl; omega
  have key : ∀ (n j m : Nat), j + n = c.length → iW (lL (c ++ x :: r) (c ++ y :: s)) (m + n + 1) (j : Int) = some (.ret true) := by
    intro n
    induction n with
    | zero =>
      intro j m hj
      have hj : j = c.length := by omega
      subst hj
      rw [Nat.add_zero, qL]
      have ga : bq (c ++ x :: r) (c.length : Int) = some x := by rw [cS, List.getElem?_append_right (by omega)]; simp
      have gb : bq (c ++ y :: s) (c.length : Int) = some y := by rw [cS, List.getElem?_append_right (by omega)]; simp
      have d1 : decide ((c.length : Int) < ((c ++ x :: r).length : Int)) = true := decide_eq_true (by simp; omega)
      have d2 : decide ((c.length : Int) < ((c ++ y :: s).length : Int)) = true := decide_eq_true (by simp; omega)
      have hc : fE x y = -1 := hxy
      simp only [lL, d1, d2, ga, gb, Option.bind_some, rA, hc]
      rfl
    | succ n ih =>
      intro j m hj
      rw [show m + (n + 1) + 1 = (m + n + 1) + 1 by omega, qL]
      have hjl : j < c.length := by omega
      have ga : bq (c ++ x :: r) (j : Int) = some c[j] := by rw [cS, List.getElem?_append_left hjl, bV hjl]
      have gb : bq (c ++ y :: s) (j : Int) = some c[j] := by rw [cS, List.getElem?_append_left hjl, bV hjl]
      have d1 : decide ((j : Int) < ((c ++ x :: r).length : Int)) = true := decide_eq_true (by simp; omega)
      have d2 : decide ((j : Int) < ((c ++ y :: s).length : Int)) = true := decide_eq_true (by simp; omega)
      have hc : fE c[j] c[j] = 0 := rz.2 rfl
      have w1 : IntKind.i64.wrap ((j : Int) + 1) = ((j + 1 : Nat) : Int) := by rw [iD (by omega) (by omega)]; omega
      simp only [lL, d1, d2, ga, gb, Option.bind_some, rA, hc, w1]
      exact ih (j + 1) m (by omega)
  obtain ⟨m, hm⟩ := nd (c.length + 1) (by omega)
  have := key c.length 0 m (by omega)
  rw [hm, ← Nat.add_assoc, show ((0 : Int)) = ((0 : Nat) : Int) from rfl, this]
  rfl
structure Wk (so : List Pk) (q : Pk) (ws : List (List Pk)) : Prop where
  ne : ws ≠ []
  ord : ws.Pairwise Bf
  good : ∀ w ∈ ws, Ch t p st w ∧ 0 < w.length ∧ w.length ≤ 24 ∧ Ov t p st w
  each : ∀ w ∈ ws, ((cE st p q).1 = [] ∧ w = so ++ [q]) ∨ ∃ d ∈ (cE st p q).1, ∃ r, w = so ++ q :: d :: r
  all : ∀ d ∈ (cE st p q).1, ∃ w ∈ ws, ∃ r, w = so ++ q :: d :: r
structure Wp (so : List Pk) (q : Pk) (done : List Pk) (ws : List (List Pk)) : Prop where
  ord : ws.Pairwise Bf
  good : ∀ w ∈ ws, Ch t p st w ∧ 0 < w.length ∧ w.length ≤ 24 ∧ Ov t p st w
  each : ∀ w ∈ ws, ∃ d ∈ done, ∃ r, w = so ++ q :: d :: r
  all : ∀ d ∈ done, ∃ w ∈ ws, ∃ r, w = so ++ q :: d :: r
theorem Wp.more {so : List Pk} {q d : Pk} {done : List Pk} {ws us : List (List Pk)} (h : Wp t p st so q done ws) (hd : ∀ e ∈ done, fh e d) (h1 : us.Pairwise Bf) (h2 : ∀ w ∈ us, Ch t p st w ∧ 0 < w.length ∧ w.length ≤ 24 ∧ Ov t p st w) (h3 : ∀ w ∈ us, ∃ r, w = so ++ q :: d :: r) (h4 : us ≠ []) :
    Wp t p st so q (done ++ [d]) (ws ++ us) where
  ord := by
    rw [List.pairwise_append]
    refine ⟨h.ord, h1, fun a ha b hb => ?_⟩
    obtain ⟨e, he, r, rfl⟩ := h.each a ha
    obtain ⟨s, rfl⟩ := h3 b hb
    exact ⟨so ++ [q], e, d, r, s, by simp, by simp, hd e he⟩
  good := fun w hw => (List.mem_append.1 hw).elim (h.good w) (h2 w)
  each := fun w hw => by
    rcases List.mem_append.1 hw with hw | hw
    · obtain ⟨e, he, r, hr⟩ := h.each w hw
      exact ⟨e, by simp [he], r, hr⟩
    · obtain ⟨r, hr⟩ := h3 w hw
      exact ⟨d, by simp, r, hr⟩
  all := fun e he => by
    rcases List.mem_append.1 he with he | he
    · obtain ⟨w, hw, r⟩ := h.all e he
      exact ⟨w, by simp [hw], r⟩
    · rw [List.mem_singleton] at he
      subst he
      cases us with
      | nil => exact (h4 rfl).elim
      | cons w us => exact ⟨w, by simp, h3 w (by simp)⟩
theorem rV (fd : List (List Pk)) (l : List Pk) (hf : fd.length ≤ 200) : j5 ⟨t, p, st, fd⟩ l = some (if fd.length = 200 then (24, ⟨t, p, st, fd⟩) else (0, ⟨t, p, st, fd ++ [l]⟩)) := by
  unfold j5
  by_cases h : fd.length = 200
  · have : ((fd.length : Int) == 200) = true := by rw [h]; rfl
    rw [if_pos h]; simp [this]
  · have e : ((fd.length : Int) == 200) = false := by simp; omega
    have g : cx fd [l] = some (fd ++ [l]) := by unfold cx; rw [if_pos (by simp; omega)]
    rw [if_neg h]
    simp only [e, Bool.false_eq_true, if_false, g, Option.bind_some]
theorem rW {l : List Pk} (h : l.length ≤ 1000) : f9 l = some l := by
  unfold f9 cx
  rw [if_pos (by simp; omega)]; rfl
end
end Go.AM
end
