import Derived.Test.YtnnkfanmokeiaaaAmBy
import Derived.Test.YtnnkfanmokeiaaaAmLp
import Derived.Test.YtnnkfanmokeiaaaWeT
set_option linter.unusedVariables false
set_option linter.unusedSimpArgs false
namespace Go.AM
open Go
theorem qZ : kr = some true := by decide +kernel
def dH {α β : Type} (step : List α → α → List α → Option β) : List α → List α → Option β
  | _, [] => none
  | pre, x :: r => match step pre x r with
    | some b => some b
    | none => dH step (pre ++ [x]) r
theorem nA {α β : Type} (f : Int → Unit → Option (Br Unit β)) (step : List α → α → List α → Option β) {l : List α} (h : ∀ pre x r, l = pre ++ x :: r → f (pre.length : Int) () = some (fP (step pre x r))) :
    ∀ suf pre, l = pre ++ suf → cl f (bS (pre.length : Int) (l.length : Int)) () = some (gm (dH step pre suf))
  | [], pre, e => by
    have : l.length = pre.length := by rw [e]; simp
    rw [this, j3]; rfl
  | x :: r, pre, e => by
    have hl : l.length = pre.length + (r.length + 1) := by rw [e]; simp
    rw [hl, j1]
    simp only [cl]
    rw [h pre x r e]
    simp only [Option.bind_some, dH]
    cases step pre x r with
    | some b => rfl
    | none =>
      show cl f _ () = _
      have := nA f step h r (pre ++ [x]) (by rw [e]; simp)
      rw [hl] at this
      simpa using this
theorem iO {α β : Type} (f : Int → Unit → Option (Br Unit β)) (step : List α → α → List α → Option β) (l : List α) (h : ∀ pre x r, l = pre ++ x :: r → f (pre.length : Int) () = some (fP (step pre x r))) :
    cl f (bS 0 (l.length : Int)) () = some (gm (dH step [] l)) := by
  have := nA f step h l [] rfl
  simpa using this
theorem iP {α : Type} {l pre r : List α} {x : α} (e : l = pre ++ x :: r) : bC l (pre.length : Int) = some x := by
  rw [gl, e]; simp
theorem kw (a b : api_Port) : (a == b) = (b == a) := by
  rw [Bool.eq_iff_iff, beq_iff_eq, beq_iff_eq]
  exact ⟨fun h => h.symm, fun h => h.symm⟩
def dT (p : api_Port) : List (A2 api_Port) → Option api_Port
  | [] => none
  | x :: l => if p = x.a0 then some x.a1 else if p = x.a1 then some x.a0 else dT p l
def kx : Option api_Port → api_Port × Bool
  | some r => (r, true)
  | none => (⟨0, 0⟩, false)
theorem nB (p : api_Port) : ∀ l : List (A2 api_Port), fq (fun x => if p = x.a0 then some (x.a1, true) else if p = x.a1 then some (x.a0, true) else none) l = (dT p l).map fun r => (r, true)
  | [] => rfl
  | x :: l => by
    simp only [fq, dT]
    by_cases h : p = x.a0
    · simp [h]
    · by_cases k : p = x.a1
      · have : ¬ x.a1 = x.a0 := fun e => h (k.trans e)
        simp [k, this]
      · simp only [h, k, if_false]; exact nB p l
theorem nC (t : api_Topo) (p : api_Port) : gp t p = some (kx (dT p t.Links)) := by
  unfold gp
  rw [iE _ (fun x : A2 api_Port => if p = x.a0 then some (x.a1, true) else if p = x.a1 then some (x.a0, true) else none) t.Links (fun j x hj => by
    simp only [iJ, gl, hj, Option.bind_some]
    by_cases h : p = x.a0
    · simp [h, fP]
    · by_cases k : p = x.a1
      · have : ¬ x.a1 = x.a0 := fun e => h (k.trans e)
        simp [k, this, fP]
      · simp [h, k, fP])]
  rw [nB]
  cases dT p t.Links <;> rfl
theorem ra (t : api_Topo) (p : api_Port) : gZ t p = some (kx (dT p t.Links)) := by
  have : gZ t p = gp t p := by
    unfold gZ gp
    have e : kv t p = iJ t p := by
      funext i u
      cases u
      simp only [kv, iJ]
      congr 1
      funext x
      have e1 : (x.a0 == p) = (p == x.a0) := kw _ _
      have e2 : (x.a1 == p) = (p == x.a1) := kw _ _
      rw [e1, e2]
    rw [e]
  rw [this, nC]
theorem iQ {α ρ : Type} (p : α → Bool) (r : ρ) : ∀ l : List α, fq (fun x => if p x then some r else none) l = if l.any p then some r else none
  | [] => rfl
  | x :: l => by
    simp only [fq, List.any_cons]
    by_cases h : p x = true
    · simp [h]
    · simp [h, iQ p r l]
theorem rb (t : api_Topo) (p : api_Port) : iN t p = some (t.Hosts.any fun x => x == p) := by
  unfold iN
  rw [iE _ (fun x : api_Port => if x == p then some true else none) t.Hosts (fun j x hj => by
    simp only [nz, gl, hj, Option.bind_some]
    by_cases h : (x == p) = true
    · simp only [h, if_true]; rfl
    · simp only [h, if_false]; rfl)]
  rw [iQ]
  by_cases h : (t.Hosts.any fun x => x == p) = true
  · simp only [h, if_true]; rfl
  · simp only [Bool.not_eq_true] at h; simp only [h]; rfl
theorem nD (p : api_Port → Bool) : ∀ (suf pre : List api_Port), (match dH (fun pre x _ => if p x then some (pre.length : Int) else none) pre suf with | some i => decide (i ≥ 0) | none => false) = suf.any p
  | [], pre => rfl
  | x :: r, pre => by
    simp only [dH, List.any_cons]
    by_cases h : p x = true
    · simp [h]
    · simp [h, nD p r]
theorem rc (t : api_Topo) (p : api_Port) : iK t p = some (t.Hosts.any fun x => x == p) := by
  unfold iK km kl
  rw [iO _ (fun pre x _ => if (x == p) then some (pre.length : Int) else none) t.Hosts (fun pre x r e => by
    simp only [ni, iP e, Option.bind_some]
    have e1 : (p == x) = (x == p) := kw _ _
    rw [e1]
    by_cases c : (x == p) = true
    · simp only [c, if_true]; rfl
    · simp only [c, if_false]; rfl)]
  rw [← nD (fun x => x == p) t.Hosts []]
  cases dH (fun pre x _ => if (x == p) then some (pre.length : Int) else none) [] t.Hosts with
  | some i => rfl
  | none => rfl
def c5 (l : List (A2 api_Port)) : List api_Port := l.flatMap fun x => [x.a0, x.a1]
theorem nE : ∀ (l : List (A2 api_Port)), (c5 l).Nodup → ∀ {p b : api_Port}, dT p l = some b → dT b l = some p ∧ b ∈ c5 l
  | [], _, p, b, h => by cases h
  | x :: l, hn, p, b, h => by
    have e : c5 (x :: l) = x.a0 :: x.a1 :: c5 l := by simp [c5]
    rw [e] at hn ⊢
    rw [List.nodup_cons, List.nodup_cons] at hn
    obtain ⟨n1, n2, n3⟩ := hn
    have ne : ¬ x.a1 = x.a0 := fun h => n1 (by rw [← h]; simp)
    simp only [dT] at h ⊢
    by_cases h0 : p = x.a0
    · rw [if_pos h0] at h; cases h
      rw [if_neg ne, if_pos rfl, h0]
      exact ⟨rfl, by simp⟩
    rw [if_neg h0] at h
    by_cases h1 : p = x.a1
    · rw [if_pos h1] at h; cases h
      rw [if_pos rfl, h1]
      exact ⟨rfl, by simp⟩
    rw [if_neg h1] at h
    obtain ⟨g1, g2⟩ := nE l n3 h
    have b0 : ¬ b = x.a0 := fun e => n1 (by rw [← e]; simp [g2])
    have b1 : ¬ b = x.a1 := fun e => n2 (by rw [← e]; exact g2)
    rw [if_neg b0, if_neg b1]
    exact ⟨g1, by simp [g2]⟩
theorem nF (t : api_Topo) (n : Int) : ∃ r, eS t n = some r := by
  unfold eS
  rw [iO _ (fun pre x _ => if (x == n) then some (pre.length : Int) else none) t.Switches (fun pre x r e => by
    simp only [nt, iP e, Option.bind_some]
    by_cases c : (x == n) = true
    · simp only [c, if_true]; rfl
    · simp only [c, if_false]; rfl)]
  cases dH (fun pre x _ => if (x == n) then some (pre.length : Int) else none) [] t.Switches with
  | some i => exact ⟨_, rfl⟩
  | none => exact ⟨_, rfl⟩
theorem rd {t : api_Topo} (h1 : t.Links.length ≤ 24) (h2 : t.Hosts.length ≤ 24) : iL t = some (c5 t.Links ++ t.Hosts) := by
  have lp : ∀ l : List (A2 api_Port), (c5 l).length = 2 * l.length := fun l => by
    induction l with
    | nil => rfl
    | cons x l ih => simp only [c5, List.flatMap_cons, List.length_append, List.length_cons, List.length_nil] at ih ⊢; omega
  obtain ⟨z, e, hP⟩ := qF (ku t) t.Links (fun l s => s = c5 l) [] rfl (fun i x s hx hP => by
    have hi : i < t.Links.length := by
      rcases Nat.lt_or_ge i t.Links.length with h | h
      · exact h
      · rw [List.getElem?_eq_none h] at hx; cases hx
    refine ⟨c5 (t.Links.take i ++ [x]), ?_, rfl⟩
    simp only [ku, gl, hx, Option.bind_some]
    have hl := lp (t.Links.take i)
    rw [List.length_take] at hl
    rw [hP]
    unfold du
    rw [if_pos (by simp only [List.length_cons, List.length_nil]; omega)]
    simp [c5])
  unfold iL
  rw [e]
  simp only [Option.bind_some, hP]
  have hl := lp t.Links
  unfold du
  rw [if_pos (by omega)]
  rfl
theorem nG : ∀ (suf pre : List api_Port), dH (fun pre x _ => if pre.any (fun y => x == y) then some (11 : Int) else none) pre suf = none → pre.Nodup → (pre ++ suf).Nodup
  | [], pre, _, hp => by simpa using hp
  | x :: r, pre, h, hp => by
    simp only [dH] at h
    by_cases c : pre.any (fun y => x == y) = true
    · rw [if_pos c] at h; cases h
    · rw [if_neg c] at h
      have := nG r (pre ++ [x]) h (by
        rw [List.nodup_append]
        refine ⟨hp, by simp, fun a ha b hb e => ?_⟩
        rw [List.mem_singleton] at hb
        subst hb; subst e
        exact c (List.any_eq_true.2 ⟨a, ha, by simp⟩))
      simpa using this
theorem ky {α β : Type} {step : List α → α → List α → Option β} {v : β} (h : ∀ pre x r, step pre x r = none ∨ step pre x r = some v) : ∀ suf pre, dH step pre suf = none ∨ dH step pre suf = some v
  | [], pre => .inl rfl
  | x :: r, pre => by
    simp only [dH]
    rcases h pre x r with e | e
    · rw [e]; exact ky h r _
    · rw [e]; exact .inr rfl
theorem re (t : api_Topo) : ∃ c, iM t = some c ∧ (c = 0 → (c5 t.Links).Nodup) := by
  unfold iM
  by_cases hs : ((decide ((t.Switches.length : Int) > 12)) || ((decide ((t.Links.length : Int) > 24)) || (decide ((t.Hosts.length : Int) > 24)))) = true
  · rw [if_pos hs]; exact ⟨2, rfl, fun h => by cases h⟩
  rw [if_neg hs]
  simp only [Bool.or_eq_true, decide_eq_true_eq, not_or] at hs
  rw [iO _ (fun pre x _ => if ((eS t x).getD 0 != (pre.length : Int)) then some 12 else none) t.Switches (fun pre x r e => by
    simp only [nu, iP e, Option.bind_some]
    obtain ⟨v, hv⟩ := nF t x
    rw [hv]
    simp only [Option.bind_some, Option.getD_some]
    by_cases c : (v != (pre.length : Int)) = true
    · simp only [c, if_true]; rfl
    · simp only [c, if_false]; rfl)]
  simp only [Option.bind_some]
  rcases ky (v := (12 : Int)) (step := fun (pre : List Int) x (_ : List Int) => if ((eS t x).getD 0 != (pre.length : Int)) then some 12 else none) (fun pre x r => by by_cases c : ((eS t x).getD 0 != (pre.length : Int)) = true <;> simp [c]) t.Switches [] with e | e
  rotate_left
  · rw [e]; exact ⟨12, rfl, fun h => by cases h⟩
  rw [e]
  simp only [gm, rd (t := t) (by omega) (by omega), Option.bind_some]
  rw [iE _ (fun x : api_Port => if decide ((eS t x.Sw).getD 0 < 0) then some (12 : Int) else none) (c5 t.Links ++ t.Hosts) (fun j x hj => by
    simp only [nv, gl, hj, Option.bind_some]
    obtain ⟨v, hv⟩ := nF t x.Sw
    rw [hv]
    simp only [Option.bind_some, Option.getD_some]
    by_cases c : v < 0
    · simp only [c, decide_true, if_true]; rfl
    · simp only [c, decide_false]; rfl)]
  simp only [Option.bind_some, iQ]
  by_cases c2 : ((c5 t.Links ++ t.Hosts).any fun x => decide ((eS t x.Sw).getD 0 < 0)) = true
  · rw [if_pos c2]; exact ⟨12, rfl, fun h => by cases h⟩
  rw [if_neg c2]
  simp only [gm]
  rw [iO _ (fun pre x _ => if pre.any (fun y => x == y) then some (11 : Int) else none) (c5 t.Links ++ t.Hosts) (fun pre x r e => by
    simp only [ny]
    rw [iE _ (fun y : api_Port => if (x == y) then some (Br.ret (11 : Int)) else none) pre (fun j y hj => by
      have hj2 : (c5 t.Links ++ t.Hosts)[j]? = some y := by
        rw [e, List.getElem?_append_left (by
          rcases Nat.lt_or_ge j pre.length with h | h
          · exact h
          · rw [List.getElem?_eq_none h] at hj; cases hj)]
        exact hj
      simp only [nw, iP e, gl, hj2, Option.bind_some]
      by_cases c : (x == y) = true
      · simp only [c, if_true]; rfl
      · simp only [c, if_false]; rfl)]
    rw [iQ]
    by_cases c : pre.any (fun y => x == y) = true
    · simp only [c, if_true]; rfl
    · simp only [c, if_false]; rfl)]
  simp only [Option.bind_some]
  cases hr : dH (fun pre x _ => if pre.any (fun y => x == y) then some (11 : Int) else none) [] (c5 t.Links ++ t.Hosts) with
  | some v =>
    refine ⟨v, rfl, fun h => ?_⟩
    rcases ky (v := (11 : Int)) (step := fun (pre : List api_Port) x (_ : List api_Port) => if pre.any (fun y => x == y) then some (11 : Int) else none) (fun pre x r => by by_cases c : pre.any (fun y => x == y) = true <;> simp [c]) (c5 t.Links ++ t.Hosts) [] with e | e
    · rw [e] at hr; cases hr
    · rw [e] at hr; cases hr; cases h
  | none =>
    refine ⟨0, rfl, fun _ => ?_⟩
    have := nG _ [] hr (by simp)
    rw [List.nil_append, List.nodup_append] at this
    exact this.1
theorem law_WalkEnds (t : api_Topo) (q : A8 Int) : law14_WalkEnds t q = some true := by
  obtain ⟨c, hc, hn⟩ := re t
  have next : ∀ q : A8 Int, ft t q = match dT ⟨q.a0, q.a1⟩ t.Links with
      | some b => some (A8.mk b.Sw b.Pt q.a2 q.a3 q.a4 q.a5 q.a6 q.a7, 0)
      | none => if (t.Hosts.any fun x => x == (⟨q.a0, q.a1⟩ : api_Port)) = true then some (q, 1) else some (q, 2) := fun q => by
    unfold ft
    simp only [kh, nC, rc, Option.bind_some, ki]
    cases dT ⟨q.a0, q.a1⟩ t.Links <;> rfl
  unfold law14_WalkEnds
  simp only [qZ, hc, Option.bind_some, Bool.not_true, Bool.false_eq_true, if_false]
  by_cases h0 : c = 0
  · subst h0
    have hn := hn rfl
    rw [next q]
    cases ho : dT ⟨q.a0, q.a1⟩ t.Links with
    | some b =>
      simp only [Option.bind_some]
      obtain ⟨g, _⟩ := nE _ hn ho
      rw [next]
      have g : dT ⟨b.Sw, b.Pt⟩ t.Links = some ⟨q.a0, q.a1⟩ := g
      simp only [g]
      simp
    | none =>
      simp only
      cases hh : (t.Hosts.any fun x => x == (⟨q.a0, q.a1⟩ : api_Port)) with
      | true => simp [rb, hh]
      | false => simp [ra, ho, kx]
  · simp [h0]
end Go.AM
