import Derived.Test.YtkgegocfjalcbaaTV5
/-
  Plain law of Save, part 6: the document's way to decode.
-/
set_option linter.unusedVariables false
set_option linter.unusedSimpArgs false
namespace Go.AM
open Go

theorem whR_succ {σ ρ : Type} (f : σ → Option (Br σ ρ)) (k : Nat) (s : σ) : whR f (k + 1) s = (f s).bind fun x => match x with
    | .next s => whR f k s
    | .brk s => some (.done s)
    | .ret r => some (.ret r) := rfl

theorem c128p (j : Nat) : (0 : Int) < ((128 ^ j : Nat) : Int) := by have := Nat.pow_pos (n := j) (show 0 < 128 by omega); omega

/-- one byte of a number -/
theorem rnum_round {bs : List Int} (hb : Byte bs) (hl : bs.length ≤ 30000000) {at_ i1 b : Int} {j p : Nat} (hj : j < 5) (h0 : 0 ≤ i1) (h1 : i1 < (128 ^ j : Nat)) (hp : at_ + (j : Int) = (p : Int)) (hat : 0 ≤ at_) (hx : bs[p]? = some b) :
    ref32_number_b1 (strOfB bs) at_ (i1, ((128 ^ j : Nat) : Int), (p : Int)) = some (if b < 128 then .ret (i1 + b * (128 ^ j : Nat), ((p + 1 : Nat) : Int)) else .next (i1 + (b - 128) * (128 ^ j : Nat), ((128 ^ (j + 1) : Nat) : Int), ((p + 1 : Nat) : Int))) := by
  have hpl := (List.getElem?_eq_some_iff.1 hx).1
  have hbb := hb b (List.mem_of_getElem? hx)
  have hle := p128le (i := j) (by omega)
  have hpos := c128p j
  have hm0 : 0 ≤ (b % 128) * ((128 ^ j : Nat) : Int) := Int.mul_nonneg (by omega) (by omega)
  have hm1 : (b % 128) * ((128 ^ j : Nat) : Int) ≤ 128 * 268435456 := Int.mul_le_mul (by omega) (by omega) (by omega) (by omega)
  unfold ref32_number_b1
  show (if _ then _ else _) = _
  rw [strOfB_size, w_i64 (n := at_ + 5) (by omega) (by omega), if_pos (by simp; omega), bat_strOfB hb hx]
  simp only [Option.bind_some]
  rw [Int.tmod_eq_emod_of_nonneg hbb.1, w_i64 (n := b % 128) (by omega) (by omega), w_i64 (n := (b % 128) * _) (by omega) (by omega), w_i64 (n := i1 + _) (by omega) (by omega), w_i64 (n := (p : Int) + 1) (by omega) (by omega)]
  by_cases c : b < 128
  · rw [if_pos (by simpa using c), if_pos c, show b % 128 = b by omega]; rfl
  · rw [if_neg (by simpa using c), if_neg c, show b % 128 = b - 128 by omega, w_i64 (by omega) (by omega)]
    congr 3

theorem rnum_stop {bs : List Int} (hl : bs.length ≤ 30000000) {at_ i1 i2 i3 : Int} (hat : 0 ≤ at_ ∧ at_ ≤ 30000000) (h : (bs.length : Int) ≤ i3 ∨ at_ + 5 ≤ i3) : ref32_number_b1 (strOfB bs) at_ (i1, i2, i3) = some (.brk (i1, i2, i3)) := by
  unfold ref32_number_b1
  show (if _ then _ else _) = _
  rw [strOfB_size, w_i64 (n := at_ + 5) (by omega) (by omega), if_neg (by simp; omega)]

theorem rnum_any_loop {bs : List Int} (hb : Byte bs) (hl : bs.length ≤ 30000000) (at_ : Nat) (hat : at_ ≤ bs.length) : ∀ (k j m : Nat) (i1 : Int), j + k = 5 → 0 ≤ i1 → i1 < (128 ^ j : Nat) →
    (∃ z, whR (ref32_number_b1 (strOfB bs) (at_ : Int)) (m + k + 1) (i1, ((128 ^ j : Nat) : Int), ((at_ + j : Nat) : Int)) = some (.done z)) ∨
    ∃ (v : Int) (e : Nat), whR (ref32_number_b1 (strOfB bs) (at_ : Int)) (m + k + 1) (i1, ((128 ^ j : Nat) : Int), ((at_ + j : Nat) : Int)) = some (.ret (v, (e : Int))) ∧ at_ < e ∧ e ≤ bs.length ∧ 0 ≤ v ∧ v < 34359738368
  | 0, j, m, i1, hj, h0, h1 => by
    left
    simp only [whR]
    rw [rnum_stop hl (by omega) (.inr (by omega))]
    exact ⟨_, rfl⟩
  | k + 1, j, m, i1, hj, h0, h1 => by
    rw [show m + (k + 1) + 1 = (m + k + 1) + 1 by omega]
    simp only [whR]
    by_cases c : bs.length ≤ at_ + j
    · left
      rw [rnum_stop hl (by omega) (.inl (by omega))]
      exact ⟨_, rfl⟩
    · have hx : bs[at_ + j]? = some bs[at_ + j] := List.getElem?_eq_getElem (by omega)
      have hbb := hb _ (List.mem_of_getElem? hx)
      have hle := p128le (i := j) (by omega)
      have hpos := c128p j
      rw [rnum_round hb hl (by omega) h0 h1 (by omega) (by omega) hx]
      simp only [Option.bind_some]
      by_cases c2 : bs[at_ + j] < 128
      · right
        rw [if_pos c2]
        have hm0 : 0 ≤ bs[at_ + j] * ((128 ^ j : Nat) : Int) := Int.mul_nonneg (by omega) (by omega)
        have hm1 : bs[at_ + j] * ((128 ^ j : Nat) : Int) ≤ 127 * 268435456 := Int.mul_le_mul (by omega) (by omega) (by omega) (by omega)
        exact ⟨_, at_ + j + 1, rfl, by omega, by omega, by omega, by omega⟩
      · rw [if_neg c2]
        have hm0 : 0 ≤ (bs[at_ + j] - 128) * ((128 ^ j : Nat) : Int) := Int.mul_nonneg (by omega) (by omega)
        have hm1 : (bs[at_ + j] - 128) * ((128 ^ j : Nat) : Int) ≤ 127 * ((128 ^ j : Nat) : Int) := Int.mul_le_mul_of_nonneg_right (by omega) (by omega)
        exact rnum_any_loop hb hl at_ hat k (j + 1) m _ (by omega) (by omega) (by rw [Nat.pow_succ, Int.natCast_mul]; omega)

theorem rnum_any {bs : List Int} (hb : Byte bs) (hl : bs.length ≤ 30000000) {a : Nat} (hat : a ≤ bs.length) : ref32_number (strOfB bs) (a : Int) = some (0, -1) ∨
    ∃ (v : Int) (e : Nat), ref32_number (strOfB bs) (a : Int) = some (v, (e : Int)) ∧ a < e ∧ e ≤ bs.length ∧ 0 ≤ v ∧ v < 34359738368 := by
  unfold ref32_number
  obtain ⟨m, hm⟩ := FUEL_big 6 (by omega)
  rw [hm]
  rcases rnum_any_loop hb hl a hat 5 0 m 0 rfl (by omega) (by simp) with ⟨z, e⟩ | ⟨v, e, h, h2⟩
  · left
    have e' : whR (ref32_number_b1 (strOfB bs) (a : Int)) (m + 6) (0, 1, (a : Int)) = some (.done z) := by simpa using e
    rw [e']; rfl
  · right
    refine ⟨v, e, ?_, h2⟩
    have e' : whR (ref32_number_b1 (strOfB bs) (a : Int)) (m + 6) (0, 1, (a : Int)) = some (.ret (v, (e : Int))) := by simpa using h
    rw [e']; rfl

theorem rnum_ok_loop (post : List Int) (at_ : Nat) : ∀ (k j : Nat) (pre : List Int) (n : Nat) (m : Nat) (i1 : Int), Byte (pre ++ num n ++ post) → (pre ++ num n ++ post).length ≤ 30000000 → pre.length = at_ + j → j + k = 5 → n < 128 ^ k → 0 ≤ i1 → i1 < (128 ^ j : Nat) →
    whR (ref32_number_b1 (strOfB (pre ++ num n ++ post)) (at_ : Int)) (m + k + 1) (i1, ((128 ^ j : Nat) : Int), (pre.length : Int)) = some (.ret (i1 + (n : Int) * (128 ^ j : Nat), ((pre.length + (num n).length : Nat) : Int))) ∨ k = 0
  | 0, j, pre, n, m, i1, hb, hl, hp, hj, hn, h0, h1 => .inr rfl
  | k + 1, j, pre, n, m, i1, hb, hl, hp, hj, hn, h0, h1 => by
    left
    rw [show m + (k + 1) + 1 = (m + k + 1) + 1 by omega, whR_succ]
    by_cases c : n < 128
    · have hx : (pre ++ num n ++ post)[pre.length]? = some (n : Int) := by rw [num_lt c]; simp
      rw [rnum_round hb hl (by omega) h0 h1 (by omega) (by omega) hx, if_pos (by omega)]
      rw [num_lt c]; rfl
    · have hx : (pre ++ num n ++ post)[pre.length]? = some ((128 + n % 128 : Nat) : Int) := by rw [num_ge c]; simp
      rw [rnum_round hb hl (by omega) h0 h1 (by omega) (by omega) hx, if_neg (by omega)]
      simp only [Option.bind_some]
      have hpos := c128p j
      have el : pre ++ num n ++ post = (pre ++ [((128 + n % 128 : Nat) : Int)]) ++ num (n / 128) ++ post := by rw [num_ge c]; simp
      have hm0 : 0 ≤ ((((128 + n % 128 : Nat) : Int)) - 128) * ((128 ^ j : Nat) : Int) := Int.mul_nonneg (by omega) (by omega)
      have hm1 : ((((128 + n % 128 : Nat) : Int)) - 128) * ((128 ^ j : Nat) : Int) ≤ 127 * ((128 ^ j : Nat) : Int) := Int.mul_le_mul_of_nonneg_right (by omega) (by omega)
      have hn2 : n / 128 < 128 ^ k := by rw [Nat.div_lt_iff_lt_mul (by omega), ← Nat.pow_succ]; exact hn
      have := rnum_ok_loop post at_ k (j + 1) (pre ++ [((128 + n % 128 : Nat) : Int)]) (n / 128) m (i1 + ((((128 + n % 128 : Nat) : Int)) - 128) * ((128 ^ j : Nat) : Int)) (by rw [← el]; exact hb) (by rw [← el]; exact hl) (by simp; omega) (by omega) hn2 (by omega) (by rw [Nat.pow_succ, Int.natCast_mul]; omega)
      rcases this with this | this
      · rw [el, show ((pre.length + 1 : Nat) : Int) = ((pre ++ [((128 + n % 128 : Nat) : Int)]).length : Int) by simp, this]
        congr 3
        · rw [Nat.pow_succ, Int.natCast_mul, ← Int.mul_assoc, Int.mul_right_comm, Int.add_assoc, ← Int.add_mul]
          congr 2
          omega
        · rw [num_ge c]; simp; omega
      · subst this
        exfalso
        have : n < 128 := by simpa using hn
        exact c this

theorem rnum_ok {pre post : List Int} {v : Int} (hb : Byte (pre ++ numI v ++ post)) (hl : (pre ++ numI v ++ post).length ≤ 30000000) (h0 : 0 ≤ v) (h1 : v ≤ 99999) :
    ref32_number (strOfB (pre ++ numI v ++ post)) (pre.length : Int) = some (v, ((pre.length + (numI v).length : Nat) : Int)) := by
  unfold ref32_number
  obtain ⟨m, hm⟩ := FUEL_big 6 (by omega)
  rw [hm]
  rcases rnum_ok_loop post pre.length 5 0 pre v.toNat m 0 hb hl (by omega) rfl (by rw [pow5]; omega) (by omega) (by simp) with e | e
  · have e' : whR (ref32_number_b1 (strOfB (pre ++ numI v ++ post)) (pre.length : Int)) (m + 6) (0, 1, (pre.length : Int)) = some (.ret (v, ((pre.length + (numI v).length : Nat) : Int))) := by
      rw [show (v.toNat : Int) = v by omega] at e
      simpa [numI] using e
    rw [e']; rfl
  · cases e

end Go.AM
