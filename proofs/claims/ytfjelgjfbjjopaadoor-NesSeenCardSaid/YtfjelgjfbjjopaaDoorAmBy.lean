import Derived.Test.YtfjelgjfbjjopaaDoorAmN6
set_option linter.unusedVariables false
set_option linter.unusedSectionVars false
set_option linter.unusedSimpArgs false
namespace Go.AM
open Go
def nn (l : List Int) : Prop := ∀ b ∈ l, 0 ≤ b ∧ b < 256
theorem zr (n : Int) : IntKind.u8.wrap n = n % 256 := yJ n
theorem zt (n : Int) : IntKind.u16.wrap n = n % 65536 := yK n
theorem iy (n : Int) : IntKind.u64.wrap n = n % 18446744073709551616 := yL n
theorem fu {n : Int} (h0 : -9223372036854775808 ≤ n) (h1 : n < 9223372036854775808) : IntKind.i64.wrap n = n := yM h0 h1
theorem tQ {l : List Int} (h : nn l) : tC (iv l) = l := by
  simp only [tC, iv, List.map_map]
  conv => rhs; rw [← List.map_id l]
  refine List.map_congr_left fun b hb => ?_
  obtain ⟨h0, h1⟩ := h b hb
  simp
  omega
theorem zu {l m : List Int} (hl : nn l) (hm : nn m) (h : iv l = iv m) : l = m := by
  rw [← tQ hl, ← tQ hm, h]
theorem tR (i k : Nat) : aS (i : Int) ((i + k : Nat) : Int) = (List.range k).map fun (j : Nat) => ((i + j : Nat) : Int) := by
  simp only [aS]
  rw [show (((i + k : Nat) : Int) - (i : Int)).toNat = k by omega]
  refine List.map_congr_left fun j _ => ?_
  push_cast; rfl
theorem jE (i k : Nat) : aS (i : Int) ((i + (k + 1) : Nat) : Int) = (i : Int) :: aS ((i + 1 : Nat) : Int) ((i + (k + 1) : Nat) : Int) := by
  rw [tR, show i + (k + 1) = (i + 1) + k by omega, tR, List.range_succ_eq_map]
  simp only [List.map_cons, List.map_map, Nat.add_zero]
  congr 1
  refine List.map_congr_left fun j _ => ?_
  simp only [Function.comp_apply, Nat.succ_eq_add_one]
  push_cast; omega
theorem jF (i : Nat) : aS (i : Int) (i : Int) = [] := by simp [aS]
theorem df {α : Type} {xs ys : List α} (h : xs.length + ys.length ≤ 4294967296) : cR xs ys = some (xs ++ ys) := by unfold cR; rw [if_pos h]
theorem bK {α : Type} (l : List α) (i : Nat) : aL l (i : Int) = l[i]? := by
  unfold aL; rw [if_pos (by omega), Int.toNat_natCast]
theorem fU (k : Nat) (h : k ≤ 1000000) : ∃ m, cr = m + k := ⟨cr - k, by unfold cr; omega⟩
theorem jG {σ : Type} (f : Int → σ → Option σ) (P : Nat → σ → Prop) : ∀ (k i : Nat) (s : σ), P i s → (∀ j s, i ≤ j → j < i + k → P j s → ∃ s', f (j : Int) s = some s' ∧ P (j + 1) s') →
    ∃ s', cy f (aS (i : Int) ((i + k : Nat) : Int)) s = some s' ∧ P (i + k) s'
  | 0, i, s, h, _ => ⟨s, by rw [show i + 0 = i from rfl, jF]; rfl, h⟩
  | k + 1, i, s, h, hs => by
    obtain ⟨s1, e1, h1⟩ := hs i s (Nat.le_refl _) (by omega) h
    obtain ⟨s2, e2, h2⟩ := jG f P k (i + 1) s1 h1 fun j s hj hk => hs j s (by omega) (by omega)
    refine ⟨s2, ?_, by rwa [show i + (k + 1) = i + 1 + k by omega]⟩
    rw [jE]
    simp only [cy]
    rw [e1]
    simp only [Option.bind_some]
    rw [show i + (k + 1) = i + 1 + k by omega]
    exact e2
theorem eB {α σ : Type} (f : Int → σ → Option σ) (l : List α) (P : List α → σ → Prop) (s : σ) (h0 : P [] s) (hs : ∀ i x s, l[i]? = some x → P (l.take i) s → ∃ s', f (i : Int) s = some s' ∧ P (l.take i ++ [x]) s') :
    ∃ s', cy f (aS 0 (l.length : Int)) s = some s' ∧ P l s' := by
  have := jG f (fun i s => P (l.take i) s) l.length 0 s (by simpa using h0) (fun j s _ hj h => by
    have hj' : j < l.length := by omega
    obtain ⟨s', e, h'⟩ := hs j l[j] s (bt hj') h
    exact ⟨s', e, by rwa [List.take_add_one, bt hj']⟩)
  obtain ⟨s', e, h'⟩ := this
  refine ⟨s', by simpa using e, by simpa using h'⟩
theorem tS {σ ρ : Type} (f : Int → σ → Option (Br σ ρ)) (P : Nat → σ → Prop) (B : σ → Prop) (R : ρ → Prop) : ∀ (k i : Nat) (s : σ), P i s → (∀ j s, i ≤ j → j < i + k → P j s → (∃ s', f (j : Int) s = some (.next s') ∧ P (j + 1) s') ∨ (∃ s', f (j : Int) s = some (.brk s') ∧ B s') ∨ ∃ r, f (j : Int) s = some (.ret r) ∧ R r) →
    (∃ s', bE f (aS (i : Int) ((i + k : Nat) : Int)) s = some (.done s') ∧ (P (i + k) s' ∨ B s')) ∨ ∃ r, bE f (aS (i : Int) ((i + k : Nat) : Int)) s = some (.ret r) ∧ R r
  | 0, i, s, h, _ => .inl ⟨s, by rw [show i + 0 = i from rfl, jF]; rfl, .inl h⟩
  | k + 1, i, s, h, hs => by
    rw [jE]
    simp only [bE]
    rcases hs i s (Nat.le_refl _) (by omega) h with ⟨s1, e1, h1⟩ | ⟨s1, e1, h1⟩ | ⟨r, e1, h1⟩
    · rw [e1]
      simp only [Option.bind_some]
      rw [show i + (k + 1) = i + 1 + k by omega]
      exact tS f P B R k (i + 1) s1 h1 fun j s hj hk => hs j s (by omega) (by omega)
    · rw [e1]; exact .inl ⟨s1, rfl, .inr h1⟩
    · rw [e1]; exact .inr ⟨r, rfl, h1⟩
theorem np {α σ ρ : Type} (f : Int → σ → Option (Br σ ρ)) (l : List α) (P : List α → σ → Prop) (B : σ → Prop) (R : ρ → Prop) (s : σ) (h0 : P [] s)
    (hs : ∀ i x s, l[i]? = some x → P (l.take i) s → (∃ s', f (i : Int) s = some (.next s') ∧ P (l.take i ++ [x]) s') ∨ (∃ s', f (i : Int) s = some (.brk s') ∧ B s') ∨ ∃ r, f (i : Int) s = some (.ret r) ∧ R r) :
    (∃ s', bE f (aS 0 (l.length : Int)) s = some (.done s') ∧ (P l s' ∨ B s')) ∨ ∃ r, bE f (aS 0 (l.length : Int)) s = some (.ret r) ∧ R r := by
  have := tS f (fun i s => P (l.take i) s) B R l.length 0 s (by simpa using h0) (fun j s _ hj h => by
    have hj' : j < l.length := by omega
    rcases hs j l[j] s (bt hj') h with ⟨s', e, h'⟩ | h | h
    · exact .inl ⟨s', e, by rwa [List.take_add_one, bt hj']⟩
    · exact .inr (.inl h)
    · exact .inr (.inr h))
  simpa using this
end Go.AM
