import Derived.Test.YtnnkfanmokeiaaaRG1
/-  Several texts in one. -/
section
set_option linter.unusedVariables false
set_option linter.unusedSimpArgs false
namespace Go.AM
open Go
inductive Wk (N : Nat → Nat → Prop) : Nat → Nat → Nat → Prop
  | nil (a : Nat) : Wk N 0 a a
  | snoc {k a b c : Nat} : Wk N k a b → N b c → Wk N (k + 1) a c
section
variable {N : Nat → Nat → Prop}
theorem Wk.last {k a c : Nat} (h : Wk N (k + 1) a c) : ∃ b, Wk N k a b ∧ N b c := by
  cases h with | snoc h1 h2 => exact ⟨_, h1, h2⟩
theorem Wk.zero {a c : Nat} (h : Wk N 0 a c) : a = c := by cases h; rfl
theorem Wk.cons {a b c k : Nat} (h : N a b) (w : Wk N k b c) : Wk N (k + 1) a c := by
  induction w with
  | nil b => exact .snoc (.nil a) h
  | snoc _ h2 ih => exact .snoc (ih h) h2
theorem Wk.rev (hs : ∀ a b, N a b → N b a) {k a b : Nat} (w : Wk N k a b) : Wk N k b a := by
  induction w with
  | nil a => exact .nil a
  | snoc _ h2 ih => exact .cons (hs _ _ h2) ih
theorem Wk.app {k a b : Nat} (w : Wk N k a b) : ∀ {j c : Nat}, Wk N j b c → Wk N (k + j) a c := by
  intro j c v
  induction v with
  | nil => exact w
  | snoc _ h2 ih => exact .snoc (ih w) h2
def dI (N : Nat → Nat → Prop) (a b : Nat) (d : Int) : Prop := (d = -1 ∧ ∀ k, ¬ Wk N k a b) ∨ ∃ k : Nat, d = k ∧ Wk N k a b ∧ ∀ j, Wk N j a b → k ≤ j
theorem dI.uniq {a b : Nat} {d d' : Int} (h : dI N a b d) (h' : dI N a b d') : d = d' := by
  rcases h with ⟨h1, h2⟩ | ⟨k, h1, h2, h3⟩ <;> rcases h' with ⟨g1, g2⟩ | ⟨j, g1, g2, g3⟩
  · omega
  · exact (h2 _ g2).elim
  · exact (g2 _ h2).elim
  · have := h3 _ g2
    have := g3 _ h2
    omega
theorem dI.rev (hs : ∀ a b, N a b → N b a) {a b : Nat} {d : Int} (h : dI N a b d) : dI N b a d := by
  rcases h with ⟨h1, h2⟩ | ⟨k, h1, h2, h3⟩
  · exact .inl ⟨h1, fun k w => h2 k (w.rev hs)⟩
  · exact .inr ⟨k, h1, h2.rev hs, fun j w => h3 j (w.rev hs)⟩
theorem rL (a : Nat) : dI N a a 0 := .inr ⟨0, rfl, .nil a, fun j _ => Nat.zero_le j⟩
theorem dI.ge {a b : Nat} {d : Int} (h : dI N a b d) : -1 ≤ d := by
  rcases h with ⟨h1, _⟩ | ⟨k, h1, _⟩ <;> omega
theorem dI.zero {a b : Nat} (h : dI N a b 0) : a = b := by
  rcases h with ⟨h1, _⟩ | ⟨k, h1, h2, _⟩
  · omega
  · have : k = 0 := by omega
    subst this; exact h2.zero
theorem vI : ∀ {l m : List Nat}, l.Nodup → (∀ x ∈ l, x ∈ m) → l.length ≤ m.length
  | [], m, _, _ => by simp
  | x :: l, m, h, hm => by
    rw [List.nodup_cons] at h
    have hx := hm x (by simp)
    have := vI (l := l) (m := m.erase x) h.2 (fun y hy => (List.mem_erase_of_ne (fun e => h.1 (by rw [← e]; exact hy))).2 (hm y (by simp [hy])))
    rw [List.length_erase_of_mem hx] at this
    have hp : 0 < m.length := List.length_pos_of_mem hx
    simp; omega
theorem vJ {n s : Nat} (hn : ∀ a b, N a b → a < n ∧ b < n) (hs : s < n) : ∀ (K v : Nat), Wk N K s v → (∀ j, Wk N j s v → K ≤ j) → ∃ l : List Nat, l.length = K + 1 ∧ l.Nodup ∧ (∀ x ∈ l, x < n) ∧ ∀ x ∈ l, ∃ j, j ≤ K ∧ Wk N j s x
  | 0, v, w, _ => ⟨[v], rfl, by simp, by intro x hx; simp at hx; subst hx; rw [← w.zero]; exact hs, by intro x hx; simp at hx; subst hx; exact ⟨0, Nat.le_refl _, w⟩⟩
  | K + 1, v, w, hm => by
    obtain ⟨u, wu, hu⟩ := w.last
    obtain ⟨l, h1, h2, h3, h4⟩ := vJ hn hs K u wu fun j wj => by have := hm _ (wj.snoc hu); omega
    refine ⟨v :: l, by simp [h1], ?_, fun x hx => ?_, fun x hx => ?_⟩
    · rw [List.nodup_cons]
      refine ⟨fun hv => ?_, h2⟩
      obtain ⟨j, hj, wj⟩ := h4 v hv
      have := hm j wj
      omega
    · rcases List.mem_cons.1 hx with rfl | hx
      · exact (hn _ _ hu).2
      · exact h3 x hx
    · rcases List.mem_cons.1 hx with rfl | hx
      · exact ⟨K + 1, Nat.le_refl _, w⟩
      · obtain ⟨j, hj, wj⟩ := h4 x hx
        exact ⟨j, by omega, wj⟩
theorem Wk.lt {n s K v : Nat} (hn : ∀ a b, N a b → a < n ∧ b < n) (hs : s < n) (w : Wk N K s v) (hm : ∀ j, Wk N j s v → K ≤ j) : K < n := by
  obtain ⟨l, h1, h2, h3, _⟩ := vJ hn hs K v w hm
  have := vI h2 (m := List.range n) (fun x hx => List.mem_range.2 (h3 x hx))
  rw [List.length_range] at this
  omega
theorem Wk.least {s v : Nat} : ∀ (k : Nat), Wk N k s v → ∃ m, m ≤ k ∧ Wk N m s v ∧ ∀ j, Wk N j s v → m ≤ j := by
  intro k
  induction k using Nat.strongRecOn with
  | ind k ih =>
    intro w
    by_cases h : ∃ j, j < k ∧ Wk N j s v
    · obtain ⟨j, hj, wj⟩ := h
      obtain ⟨m, h1, h2, h3⟩ := ih j hj wj
      exact ⟨m, by omega, h2, h3⟩
    · exact ⟨k, Nat.le_refl _, w, fun j wj => Nat.le_of_not_lt fun hj => h ⟨j, hj, wj⟩⟩
theorem dI.ex (a b : Nat) : ∃ d, dI N a b d := by
  by_cases h : ∃ k, Wk N k a b
  · obtain ⟨k, w⟩ := h
    obtain ⟨m, _, h2, h3⟩ := w.least
    exact ⟨m, .inr ⟨m, rfl, h2, h3⟩⟩
  · exact ⟨-1, .inl ⟨rfl, fun k w => h ⟨k, w⟩⟩⟩
theorem dI.lt {n a b : Nat} {d : Int} (hn : ∀ a b, N a b → a < n ∧ b < n) (ha : a < n) (h : dI N a b d) : d < n := by
  rcases h with ⟨h1, _⟩ | ⟨k, h1, h2, h3⟩
  · omega
  · have := Wk.lt hn ha h2 h3; omega
theorem dI.back {a v : Nat} {k : Nat} (h : dI N a v ((k : Int) + 1)) : ∃ u, N u v ∧ dI N a u k := by
  rcases h with ⟨h1, _⟩ | ⟨j, h1, h2, h3⟩
  · omega
  · obtain rfl : j = k + 1 := by omega
    obtain ⟨u, wu, hu⟩ := h2.last
    exact ⟨u, hu, .inr ⟨k, rfl, wu, fun j wj => by have := h3 _ (wj.snoc hu); omega⟩⟩
theorem dI.next {a u v : Nat} {d e : Int} (h : dI N a u d) (hd : 0 ≤ d) (hn : N u v) (g : dI N a v e) : 0 ≤ e ∧ e ≤ d + 1 := by
  rcases h with ⟨h1, _⟩ | ⟨p, h1, h2, _⟩
  · omega
  rcases g with ⟨_, g2⟩ | ⟨r, g1, _, g3⟩
  · exact (g2 _ (h2.snoc hn)).elim
  · have := g3 _ (h2.snoc hn)
    omega
end
def Ds (N : Nat → Nat → Prop) (n s : Nat) (D : List Int) : Prop := D.length = n ∧ ∀ v d, D[v]? = some d → dI N s v d
theorem Ds.get {N : Nat → Nat → Prop} {n s v : Nat} {D : List Int} (h : Ds N n s D) (hv : v < n) : ∃ d, D[v]? = some d ∧ dI N s v d := by
  have hv' : v < D.length := by rw [h.1]; exact hv
  exact ⟨_, bU hv', h.2 v _ (bU hv')⟩
end Go.AM
end
section
set_option linter.unusedVariables false
set_option linter.unusedSimpArgs false
namespace Go.AM
open Go
def dQ {α β : Type} (step : List α → α → List α → Option β) : List α → List α → Option β
  | _, [] => none
  | pre, x :: r => match step pre x r with
    | some b => some b
    | none => dQ step (pre ++ [x]) r
theorem vK {α β : Type} (f : Int → Unit → Option (Br Unit β)) (step : List α → α → List α → Option β) {l : List α} (h : ∀ pre x r, l = pre ++ x :: r → f (pre.length : Int) () = some (iC (step pre x r))) :
    ∀ (suf pre : List α), l = pre ++ suf → b6 f (bA (pre.length : Int) ((pre.length + suf.length : Nat) : Int)) () = some (fL (dQ step pre suf))
  | [], pre, e => by rw [show pre.length + ([] : List α).length = pre.length from rfl, k7]; rfl
  | x :: r, pre, e => by
    rw [show pre.length + (x :: r).length = pre.length + (r.length + 1) by simp, k6]
    simp only [b6]
    rw [h pre x r e]
    simp only [Option.bind_some, dQ]
    cases step pre x r with
    | some b => rfl
    | none =>
      show b6 f _ () = _
      have := vK f step h r (pre ++ [x]) (by rw [e]; simp)
      rw [show (pre ++ [x]).length = pre.length + 1 by simp] at this
      rw [show pre.length + (r.length + 1) = pre.length + 1 + r.length by omega]
      exact this
theorem kz {α β : Type} (f : Int → Unit → Option (Br Unit β)) (step : List α → α → List α → Option β) (l : List α) (h : ∀ pre x r, l = pre ++ x :: r → f (pre.length : Int) () = some (iC (step pre x r))) :
    b6 f (bA 0 (l.length : Int)) () = some (fL (dQ step [] l)) := by
  have := vK f step h l [] rfl
  simpa using this
theorem lE {α : Type} {l pre r : List α} {x : α} (e : l = pre ++ x :: r) : be l (pre.length : Int) = some x := by
  rw [cd, e]; simp
def oX (l : List Int) (x : Int) : Option Int := dQ (fun pre y _ => if (y == x) then some (pre.length : Int) else none) [] l
def pl (l : List Int) (x : Int) : Int := (oX l x).getD (-1)
theorem vL (x : Int) : ∀ (suf pre : List Int), match dQ (fun pre y _ => if (y == x) then some (pre.length : Int) else none) pre suf with
    | some i => ∃ k : Nat, i = ((pre.length + k : Nat) : Int) ∧ suf[k]? = some x
    | none => x ∉ suf
  | [], pre => by simp [dQ]
  | y :: r, pre => by
    simp only [dQ]
    by_cases c : (y == x) = true
    · rw [if_pos c]
      exact ⟨0, rfl, by simpa using c⟩
    · rw [if_neg c]
      have := vL x r (pre ++ [y])
      simp only
      cases h : dQ (fun pre y _ => if (y == x) then some (pre.length : Int) else none) (pre ++ [y]) r with
      | some i =>
        rw [h] at this
        obtain ⟨k, h1, h2⟩ := this
        refine ⟨k + 1, by rw [h1]; simp; omega, by simpa using h2⟩
      | none =>
        rw [h] at this
        simp only [List.mem_cons, not_or]
        exact ⟨fun e => c (by simp [e]), this⟩
theorem lF (l : List Int) (x : Int) : (∃ k : Nat, pl l x = k ∧ l[k]? = some x) ∨ (pl l x = -1 ∧ x ∉ l) := by
  have := vL x l []
  unfold pl oX
  cases h : dQ (fun pre y _ => if (y == x) then some (pre.length : Int) else none) [] l with
  | some i =>
    rw [h] at this
    obtain ⟨k, h1, h2⟩ := this
    exact .inl ⟨k, by simpa using h1, h2⟩
  | none => rw [h] at this; exact .inr ⟨rfl, this⟩
theorem oY (t : api_Topo) (x : Int) : iU t x = some (pl t.Switches x) := by
  unfold iU
  rw [kz _ (fun pre y _ => if (y == x) then some (pre.length : Int) else none) t.Switches (fun pre y r e => by
    simp only [uF, lE e, Option.bind_some]
    by_cases c : (y == x) = true
    · simp only [c, if_true]; rfl
    · simp only [c, if_false]; rfl)]
  unfold pl oX
  cases dQ (fun pre y _ => if (y == x) then some (pre.length : Int) else none) [] t.Switches <;> rfl
theorem AQ (l : List Int) (x : Int) : n8 l x = some (pl l x) := by
  unfold n8
  rw [kz _ (fun pre y _ => if (y == x) then some (pre.length : Int) else none) l (fun pre y r e => by
    simp only [um, lE e, Option.bind_some]
    have e1 : (x == y) = (y == x) := by rw [Bool.eq_iff_iff]; simp; exact eq_comm
    rw [e1]
    by_cases c : (y == x) = true
    · simp only [c, if_true]; rfl
    · simp only [c, if_false]; rfl)]
  unfold pl oX
  cases dQ (fun pre y _ => if (y == x) then some (pre.length : Int) else none) [] l <;> rfl
theorem vM (t : api_Topo) (x : Int) : kh t x = some (fX (pl t.Switches x) 0, decide (pl t.Switches x ≥ 0)) := by
  unfold kh; rw [AQ]; rfl
def cN (l : List (A2 api_Port)) : List api_Port := l.flatMap fun x => [x.a0, x.a1]
structure Wf (t : api_Topo) : Prop where
  sw : t.Switches.length ≤ 12
  ln : t.Links.length ≤ 24
  id : ∀ (k : Nat) x, t.Switches[k]? = some x → pl t.Switches x = k
  pt : ∀ p ∈ cN t.Links, 0 ≤ pl t.Switches p.Sw
  nd : (cN t.Links).Nodup
theorem AR {t : api_Topo} (h1 : t.Links.length ≤ 24) (h2 : t.Hosts.length ≤ 24) : oF t = some (cN t.Links ++ t.Hosts) := by
  have lp : ∀ l : List (A2 api_Port), (cN l).length = 2 * l.length := fun l => by
    induction l with
    | nil => rfl
    | cons x l ih => simp only [cN, List.flatMap_cons, List.length_append, List.length_cons, List.length_nil] at ih ⊢; omega
  obtain ⟨z, e, hP⟩ := jq (qU t) t.Links (fun l s => s = cN l) [] rfl (fun i x s hx hP => by
    have hi : i < t.Links.length := by
      rcases Nat.lt_or_ge i t.Links.length with h | h
      · exact h
      · rw [List.getElem?_eq_none h] at hx; cases hx
    refine ⟨cN (t.Links.take i ++ [x]), ?_, rfl⟩
    simp only [qU, cd, hx, Option.bind_some]
    have hl := lp (t.Links.take i)
    rw [List.length_take] at hl
    rw [hP]
    unfold cY
    rw [if_pos (by simp only [List.length_cons, List.length_nil]; omega)]
    simp [cN])
  unfold oF
  rw [e]
  simp only [Option.bind_some, hP]
  have hl := lp t.Links
  unfold cY
  rw [if_pos (by omega)]
  rfl
theorem vN : ∀ (suf pre : List api_Port), dQ (fun pre x _ => if pre.any (fun y => x == y) then some (11 : Int) else none) pre suf = none → pre.Nodup → (pre ++ suf).Nodup
  | [], pre, _, hp => by simpa using hp
  | x :: r, pre, h, hp => by
    simp only [dQ] at h
    by_cases c : pre.any (fun y => x == y) = true
    · rw [if_pos c] at h; cases h
    · rw [if_neg c] at h
      have := vN r (pre ++ [x]) h (by
        rw [List.nodup_append]
        refine ⟨hp, by simp, fun a ha b hb e => ?_⟩
        rw [List.mem_singleton] at hb
        subst hb; subst e
        exact c (List.any_eq_true.2 ⟨a, ha, by simp⟩))
      simpa using this
theorem rM {α β : Type} {step : List α → α → List α → Option β} {v : β} (h : ∀ pre x r, step pre x r = none ∨ step pre x r = some v) : ∀ suf pre, dQ step pre suf = none ∨ dQ step pre suf = some v
  | [], pre => .inl rfl
  | x :: r, pre => by
    simp only [dQ]
    rcases h pre x r with e | e
    · rw [e]; exact rM h r _
    · rw [e]; exact .inr rfl
theorem mV {α β : Type} {step : List α → α → List α → Option β} : ∀ suf pre, dQ step pre suf = none → ∀ (k : Nat) x, suf[k]? = some x → step (pre ++ suf.take k) x (suf.drop (k + 1)) = none
  | [], pre, _, k, x, h => by simp at h
  | y :: r, pre, h, k, x, hk => by
    simp only [dQ] at h
    cases hs : step pre y r with
    | some b => rw [hs] at h; cases h
    | none =>
      rw [hs] at h
      cases k with
      | zero => cases hk; simpa using hs
      | succ k => simpa using mV r (pre ++ [y]) h k x (by simpa using hk)
theorem oZ {α ρ : Type} (p : α → Bool) (r : ρ) : ∀ l : List α, e9 (fun x => if p x then some r else none) l = if l.any p then some r else none
  | [] => rfl
  | x :: l => by
    simp only [e9, List.any_cons]
    by_cases c : p x = true
    · simp [c]
    · simp only [c, if_false, Bool.false_or]; simpa [c] using oZ p r l
end Go.AM
end
