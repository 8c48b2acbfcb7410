import Derived.Test.YtkgegocfjalcbaaDoorCZ2
/-
  Layer 21: both looks at a history go alike.
-/
set_option linter.unusedVariables false
set_option linter.unusedSimpArgs false
namespace Go.AM
open Go

/-- Two loops that go alike. -/
theorem forR_rel {σ τ ρ ρ' : Type} (f : Int → σ → Option (Br σ ρ)) (g : Int → τ → Option (Br τ ρ')) (Rl : Nat → σ → τ → Prop) (R : ρ → ρ' → Prop) : ∀ (k i : Nat) (s : σ) (t : τ), Rl i s t →
    (∀ j s t, i ≤ j → j < i + k → Rl j s t → (∃ s' t', f (j : Int) s = some (.next s') ∧ g (j : Int) t = some (.next t') ∧ Rl (j + 1) s' t') ∨ ∃ r r', f (j : Int) s = some (.ret r) ∧ g (j : Int) t = some (.ret r') ∧ R r r') →
    (∃ s' t', forR f (irange (i : Int) ((i + k : Nat) : Int)) s = some (.done s') ∧ forR g (irange (i : Int) ((i + k : Nat) : Int)) t = some (.done t') ∧ Rl (i + k) s' t') ∨
    ∃ r r', forR f (irange (i : Int) ((i + k : Nat) : Int)) s = some (.ret r) ∧ forR g (irange (i : Int) ((i + k : Nat) : Int)) t = some (.ret r') ∧ R r r'
  | 0, i, s, t, h, _ => .inl ⟨s, t, by rw [show i + 0 = i from rfl, irangeN_nil]; rfl, by rw [show i + 0 = i from rfl, irangeN_nil]; rfl, h⟩
  | k + 1, i, s, t, h, hs => by
    rw [irangeN_cons]
    simp only [forR]
    rcases hs i s t (Nat.le_refl _) (by omega) h with ⟨s1, t1, e1, e2, h1⟩ | ⟨r, r', e1, e2, h1⟩
    · rw [e1, e2]
      simp only [Option.bind_some]
      rw [show i + (k + 1) = i + 1 + k by omega]
      exact forR_rel f g Rl R k (i + 1) s1 t1 h1 fun j s t hj hk => hs j s t (by omega) (by omega)
    · rw [e1, e2]; exact .inr ⟨r, r', rfl, rfl, h1⟩

/-! the last hop of a path -/

def isHop (h : List api_Step) (p : Int) (k : Nat) : Bool := match h[k]? with
  | some s => s.What == 2 && s.Path == p
  | none => false
def lastH (h : List api_Step) (p : Int) : Nat → Option Nat
  | 0 => none
  | k + 1 => if isHop h p k then some k else lastH h p k

theorem lastH_lt {h : List api_Step} {p : Int} : ∀ {i k : Nat}, lastH h p i = some k → k < i
  | 0, k, e => by cases e
  | i + 1, k, e => by
    simp only [lastH] at e
    split at e
    · cases e; omega
    · have := lastH_lt e; omega

theorem dr_cons (k : Nat) : drange (((k + 1 : Nat) : Int) - 1) (-1) = (k : Int) :: drange ((k : Int) - 1) (-1) := by
  unfold drange
  rw [show ((((k + 1 : Nat) : Int) - 1) - (-1)).toNat = k + 1 by omega, show (((k : Int) - 1) - (-1)).toNat = k by omega, List.range_succ_eq_map, List.map_cons, List.map_map]
  congr 1
  · simp
  · apply List.map_congr_left
    intro a _
    simp only [Function.comp_apply]
    omega

theorem earlier_run (h : List api_Step) (x : api_Step) : ∀ i : Nat, i ≤ h.length → forR (ref21_earlier_b1 h x) (drange ((i : Int) - 1) (-1)) () = some (exOf ((lastH h x.Path i).map fun (k : Nat) => ((k : Int), true)))
  | 0, _ => rfl
  | i + 1, hi => by
    rw [dr_cons]
    have hx := List.getElem?_eq_getElem (show i < h.length by omega)
    simp only [forR, lastH, isHop, hx]
    have hstep : ref21_earlier_b1 h x (i : Int) () = some (if (h[i].What == 2 && h[i].Path == x.Path) = true then .ret ((i : Int), true) else .next ()) := by
      simp only [ref21_earlier_b1, gat_nat, hx, Option.bind_some]
      split <;> rfl
    rw [hstep]
    simp only [Option.bind_some]
    by_cases c : (h[i].What == 2 && h[i].Path == x.Path) = true
    · rw [if_pos c, if_pos c]; rfl
    · rw [if_neg c, if_neg c]; exact earlier_run h x i (by omega)

inductive Er where
  | none
  | hop (k : Nat)
  | bad

def er (paths : List api_Path) (h : List api_Step) (x : api_Step) (i : Nat) : Er :=
  if x.Path < 0 then .none else match lastH h x.Path i with
    | some k => .hop k
    | none => match paths[x.Path.toNat]? with
      | some q => if q.Of < 0 then .none else if 0 ≤ q.At ∧ q.At < i then .hop q.At.toNat else .bad
      | none => .bad

theorem er_lt {paths : List api_Path} {h : List api_Step} {x : api_Step} {i k : Nat} (e : er paths h x i = .hop k) : k < i := by
  unfold er at e
  split at e
  · cases e
  · split at e
    · rename_i hk; cases e; exact lastH_lt hk
    · split at e
      · split at e
        · cases e
        · split at e
          · cases e; omega
          · cases e
      · cases e

theorem earlier_ok {paths : List api_Path} {h : List api_Step} {x : api_Step} {i : Nat} (hx : h[i]? = some x) (hi : i ≤ 20) (hp : x.Path < paths.length) :
    ∃ k ok, ref21_earlier paths h i = some (k, ok) ∧ match er paths h x i with
      | .none => k < 0 ∧ ok = true
      | .hop q => k = (q : Int) ∧ ok = true
      | .bad => ok = false := by
  have hil : i < h.length := (List.getElem?_eq_some_iff.1 hx).1
  unfold ref21_earlier er
  simp only [gat_nat, hx, Option.bind_some]
  by_cases c : x.Path < 0
  · rw [if_pos (by simpa using c), if_pos c]
    exact ⟨_, _, rfl, by decide, rfl⟩
  · rw [if_neg (by simpa using c), if_neg c, w_i64 (by omega) (by omega), earlier_run h x i (by omega)]
    cases hl : lastH h x.Path i with
    | some k => exact ⟨_, _, rfl, rfl, rfl⟩
    | none =>
      have hlt : x.Path.toNat < paths.length := by omega
      have hq := List.getElem?_eq_getElem hlt
      simp only [Option.map_none, exOf, Option.bind_some, gat, show (0 : Int) ≤ x.Path by omega, if_true, hq]
      by_cases d : paths[x.Path.toNat].Of < 0
      · rw [if_neg (by simp; omega), if_pos d]; exact ⟨_, _, rfl, by decide, rfl⟩
      · rw [if_pos (by simp; omega), if_neg d]
        by_cases g : 0 ≤ paths[x.Path.toNat].At ∧ paths[x.Path.toNat].At < i
        · rw [if_pos g]; exact ⟨_, _, rfl, by simp; omega, by simp; omega⟩
        · rw [if_neg g]; exact ⟨_, _, rfl, by simp; omega⟩

theorem from_ok {a0 : cause_looker} {x : api_Step} {i : Nat} (hx : a0.h[i]? = some x) (hp : x.Path < a0.paths.length) (hlast : ∀ p : Int, 0 ≤ p → mget a0.last p = (lastH a0.h p i).map fun (k : Nat) => (k : Int)) :
    ∃ k sm ok, cause_looker_from a0 i = some (k, sm, ok, a0) ∧ match er a0.paths a0.h x i with
      | .none => sm = false ∧ ok = true
      | .hop q => k = (q : Int) ∧ sm = true ∧ ok = true
      | .bad => ok = false := by
  unfold cause_looker_from er
  simp only [gat_nat, hx, Option.bind_some]
  by_cases c : x.Path < 0
  · rw [if_pos (by simpa using c), if_pos c]
    exact ⟨_, _, _, rfl, rfl, rfl⟩
  · rw [if_neg (by simpa using c), if_neg c, hlast x.Path (by omega)]
    cases hl : lastH a0.h x.Path i with
    | some k => exact ⟨_, _, _, rfl, rfl, rfl, rfl⟩
    | none =>
      have hlt : x.Path.toNat < a0.paths.length := by omega
      have hq := List.getElem?_eq_getElem hlt
      simp only [Option.map_none, Option.isSome_none, Bool.false_eq_true, if_false, gat, show (0 : Int) ≤ x.Path by omega, if_true, hq, Option.bind_some]
      by_cases d : a0.paths[x.Path.toNat].Of < 0
      · rw [if_pos (by simpa using d), if_pos d]; exact ⟨_, _, _, rfl, rfl, rfl⟩
      · rw [if_neg (by simpa using d), if_neg d]
        by_cases g : 0 ≤ a0.paths[x.Path.toNat].At ∧ a0.paths[x.Path.toNat].At < i
        · rw [if_pos g]; exact ⟨_, _, _, rfl, by omega, rfl, by simp; omega⟩
        · rw [if_neg g]; exact ⟨_, _, _, rfl, by simp; omega⟩

/-! lists of sets -/

def SL (n : Nat) (l : List (List Int)) (ws : List Nat) : Prop := l.length = ws.length ∧ ∀ (q : Nat) s w, l[q]? = some s → ws[q]? = some w → St n w s

theorem SL.get {n : Nat} {l : List (List Int)} {ws : List Nat} (h : SL n l ws) {q : Nat} (hq : q < ws.length) : ∃ s, l[q]? = some s ∧ St n ws[q] s := by
  have hl : q < l.length := by rw [h.1]; exact hq
  exact ⟨l[q], List.getElem?_eq_getElem hl, h.2 q _ _ (List.getElem?_eq_getElem hl) (List.getElem?_eq_getElem hq)⟩
theorem SL.set {n : Nat} {l : List (List Int)} {ws : List Nat} (h : SL n l ws) (q : Nat) {s : List Int} {w : Nat} (hs : St n w s) : SL n (l.set q s) (ws.set q w) := by
  refine ⟨by simp [h.1], fun j s' w' h1 h2 => ?_⟩
  rw [List.getElem?_set] at h1 h2
  by_cases c : q = j
  · rw [if_pos c] at h1 h2
    split at h1
    · split at h2
      · cases h1; cases h2; exact hs
      · cases h2
    · cases h1
  · rw [if_neg c] at h1 h2; exact h.2 j s' w' h1 h2
theorem SL.snoc {n : Nat} {l : List (List Int)} {ws : List Nat} (h : SL n l ws) {s : List Int} {w : Nat} (hs : St n w s) : SL n (l ++ [s]) (ws ++ [w]) := by
  refine ⟨by simp [h.1], fun j s' w' h1 h2 => ?_⟩
  by_cases c : j < ws.length
  · rw [List.getElem?_append_left (by rw [h.1]; exact c)] at h1
    rw [List.getElem?_append_left c] at h2
    exact h.2 j s' w' h1 h2
  · rw [List.getElem?_append_right (by rw [h.1]; omega), h.1] at h1
    rw [List.getElem?_append_right (by omega)] at h2
    cases hj : j - ws.length with
    | zero => rw [hj] at h1 h2; simp at h1 h2; subst h1; subst h2; exact hs
    | succ k => rw [hj] at h1; simp at h1

theorem gmapat {ws : List Nat} {n q : Nat} (hq : q < ws.length) : gat (ws.map (bm n)) (q : Int) = some (bm n ws[q]) := by rw [gat_nat]; simp [hq]
theorem gmapput {ws : List Nat} {n q w : Nat} (hq : q < ws.length) : gput (ws.map (bm n)) (q : Int) (bm n w) = some ((ws.set q w).map (bm n)) := by
  unfold gput; rw [if_pos (by omega), if_pos (by simpa using hq)]; simp [List.map_set]
theorem gput_nat' {α : Type} {l : List α} {q : Nat} {v : α} (hq : q < l.length) : gput l (q : Int) v = some (l.set q v) := by
  unfold gput; rw [if_pos (by omega), if_pos (by simpa using hq)]; simp
theorem bm_gput {n w k : Nat} (hk : k < n) : gput (bm n w) (k : Int) true = some (bm n (w ||| 2 ^ k)) := by
  rw [gput_nat' (by rw [bm_len]; exact hk), bm_set]
end Go.AM
