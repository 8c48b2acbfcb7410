import Derived.Test.YtkgegocfjalcbaaTV2
/-
  Plain law of Save, part 3: the program's way to decode.
-/
set_option linter.unusedVariables false
set_option linter.unusedSimpArgs false
namespace Go.AM
open Go

theorem and127 : ∀ a : Fin 256, andI .u8 (a.val : Int) 127 = (a.val : Int) % 128 := by decide +kernel

theorem and127' {b : Int} (h0 : 0 ≤ b) (h1 : b < 256) : andI .u8 b 127 = b % 128 := by
  have := and127 ⟨b.toNat, by omega⟩
  rwa [show ((b.toNat : Nat) : Int) = b by omega] at this

theorem p128 (i : Nat) : (128 : Int) ^ i = 2 ^ (7 * i) := by rw [Int.pow_mul]; rfl
theorem p128n (i : Nat) : (128 : Nat) ^ i = 2 ^ (7 * i) := by rw [Nat.pow_mul]
theorem p128le {i : Nat} (h : i ≤ 4) : (128 : Nat) ^ i ≤ 268435456 := by
  have := Nat.pow_le_pow_right (n := 128) (by omega) h
  have e : (128 : Nat) ^ 4 = 268435456 := by decide
  omega
theorem c128 (i : Nat) : ((128 ^ i : Nat) : Int) = (128 : Int) ^ i := by simp

theorem shl7 {c : Int} {i : Nat} (h0 : 0 ≤ c) (h1 : c < 128) (hi : i ≤ 4) : shlI .i64 c (IntKind.i64.wrap (7 * (i : Int))) = some (c * 128 ^ i) := by
  unfold shlI
  rw [w_i64 (by omega) (by omega), if_neg (by omega)]
  have e : min (7 * (i : Int)).toNat (IntKind.i64).bits = 7 * i := by show min _ 64 = _; omega
  rw [e, ← p128]
  have hp := p128le hi
  have hc : (0 : Int) < (128 ^ i : Nat) := by have := Nat.pow_pos (n := i) (show 0 < 128 by omega); omega
  have h2 : c * (128 : Int) ^ i ≤ 128 * 268435456 := by rw [← c128]; exact Int.mul_le_mul (by omega) (by omega) (by omega) (by omega)
  have h3 : 0 ≤ c * (128 : Int) ^ i := by rw [← c128]; exact Int.mul_nonneg h0 (by omega)
  rw [w_i64 (by omega) (by omega)]

theorem or7 {acc c : Int} {i : Nat} (ha : 0 ≤ acc) (ha2 : acc < 128 ^ i) (h0 : 0 ≤ c) (h1 : c < 128) (hi : i ≤ 4) : orI .i64 acc (c * 128 ^ i) = acc + c * 128 ^ i := by
  unfold orI
  have hp := p128le hi
  have hpos : 0 < (128 : Nat) ^ i := Nat.pow_pos (by omega)
  rw [← c128] at ha2 ⊢
  have e1 : acc = ((acc.toNat : Nat) : Int) := by omega
  have e2 : c = ((c.toNat : Nat) : Int) := by omega
  have hy : acc.toNat < 2 ^ (7 * i) := by rw [← p128n]; omega
  have hx : c.toNat * 2 ^ (7 * i) + acc.toNat < 2 ^ 64 := by
    rw [← p128n]
    have : c.toNat * 128 ^ i ≤ 128 * 268435456 := Nat.mul_le_mul (by omega) hp
    omega
  have := or_nat 64 (7 * i) c.toNat acc.toNat hy hx
  rw [← p128n] at this
  rw [e1, e2]
  rw [show ((c.toNat : Nat) : Int) * ((128 ^ i : Nat) : Int) = ((c.toNat * 128 ^ i : Nat) : Int) by simp]
  show IntKind.i64.wrap ((BitVec.ofInt 64 _ ||| BitVec.ofInt 64 _).toNat : Int) = _
  rw [BitVec.or_comm, this]
  rw [← p128n] at hx
  have : c.toNat * 128 ^ i ≤ 128 * 268435456 := Nat.mul_le_mul (by omega) hp
  rw [w_i64 (by omega) (by omega)]
  omega

/-! numbers -/

def rdN : Nat → Nat → Int → Int → List Int → Int × List Int × Bool
  | 0, _, _, _, bs => (0, bs, true)
  | _ + 1, _, _, _, [] => (0, [], true)
  | k + 1, i, acc, bound, b :: rest =>
    if b < 128 then (acc + b * 128 ^ i, rest, decide (acc + b * 128 ^ i > bound) || (decide (0 < i) && b == 0)) else rdN k (i + 1) (acc + (b - 128) * 128 ^ i) bound rest

theorem take1_nil (b : Bool) : save_reader_take ⟨strOfB [], b⟩ 1 = some (emptyS, ⟨strOfB [], true⟩) := by
  unfold save_reader_take
  rw [if_pos (by simp [strOfB_size])]; rfl

theorem take_bad (s : ByteArray) (n : Int) : save_reader_take ⟨s, true⟩ n = some (emptyS, ⟨s, true⟩) := by
  unfold save_reader_take
  rw [if_pos (by simp)]; rfl

theorem take_ok {a bs : List Int} {n : Int} (hn : n = (a.length : Int)) : save_reader_take ⟨strOfB (a ++ bs), false⟩ n = some (strOfB a, ⟨strOfB bs, false⟩) := by
  subst hn
  unfold save_reader_take
  rw [if_neg (by simp [strOfB_size]; omega)]
  have h1 := scut_strOfB (a ++ bs) (a := 0) (b := a.length) (by omega) (by simp)
  have h2 := scut_strOfB (a ++ bs) (a := a.length) (b := (a ++ bs).length) (by simp) (by omega)
  rw [show (((0 : Nat) : Nat) : Int) = 0 from rfl] at h1
  rw [h1]
  simp only [Option.bind_some]
  rw [strOfB_size, h2]
  simp only [Option.bind_some]
  congr 3
  · simp
  · congr 1; simp

theorem take_any (bs : List Int) (b : Bool) (n : Nat) : ∃ s rest bad, save_reader_take ⟨strOfB bs, b⟩ (n : Int) = some (s, ⟨strOfB rest, bad⟩) ∧ (∀ x ∈ rest, x ∈ bs) ∧ (bad = false → b = false ∧ ∃ a, bs = a ++ rest ∧ a.length = n ∧ s = strOfB a) := by
  cases b with
  | true => exact ⟨_, bs, true, take_bad _ _, fun x h => h, fun h => by cases h⟩
  | false =>
    by_cases hl : bs.length < n
    · refine ⟨emptyS, bs, true, ?_, fun x h => h, fun h => by cases h⟩
      unfold save_reader_take
      rw [if_pos (by simp [strOfB_size]; omega)]; rfl
    · refine ⟨strOfB (bs.take n), bs.drop n, false, ?_, fun x h => List.mem_of_mem_drop h, fun _ => ⟨rfl, bs.take n, by simp, by simp; omega, rfl⟩⟩
      have := take_ok (a := bs.take n) (bs := bs.drop n) (n := (n : Int)) (by simp; omega)
      rwa [List.take_append_drop] at this

theorem bat0 {b : Int} {l : List Int} (h : Byte (b :: l)) : bat (strOfB [b]) 0 = some b :=
  bat_strOfB (l := [b]) (i := 0) (fun x hx => h x (by simp at hx; simp [hx])) rfl

theorem rd_loop (bound : Int) : ∀ (k i : Nat) (acc : Int) (bs : List Int), i + k = 5 → Byte bs → 0 ≤ acc → acc < 128 ^ i →
    ((forR (save_reader_number_b1 bound) (irange (i : Int) ((i + k : Nat) : Int)) (acc, ⟨strOfB bs, false⟩)).bind fun q18 => match q18 with
    | .ret r => some r
    | .done (z16, z17) => some (0, (save_reader.mk z17.s true))) = some ((rdN k i acc bound bs).1, ⟨strOfB (rdN k i acc bound bs).2.1, (rdN k i acc bound bs).2.2⟩)
  | 0, i, acc, bs, hi, hb, h0, h1 => by
    rw [show i + 0 = i from rfl, irangeN_nil]
    rfl
  | k + 1, i, acc, [], hi, hb, h0, h1 => by
    rw [irangeN_cons]
    simp only [forR]
    have : save_reader_number_b1 bound (i : Int) (acc, ⟨strOfB [], false⟩) = some (.ret (0, ⟨strOfB [], true⟩)) := by
      unfold save_reader_number_b1
      show (save_reader_take _ _).bind _ = _
      rw [take1_nil]; rfl
    rw [this]; rfl
  | k + 1, i, acc, b :: bs, hi, hb, h0, h1 => by
    rw [irangeN_cons]
    simp only [forR]
    have hbb := hb b (by simp)
    have hm : b % 128 < 128 ∧ 0 ≤ b % 128 := ⟨by omega, by omega⟩
    have hpos : (0 : Int) < (128 ^ i : Nat) := by have := Nat.pow_pos (n := i) (show 0 < 128 by omega); omega
    have hstep : save_reader_number_b1 bound (i : Int) (acc, ⟨strOfB (b :: bs), false⟩) = some (if b < 128 then .ret (acc + b * 128 ^ i, ⟨strOfB bs, decide (acc + b * 128 ^ i > bound) || (decide (0 < i) && b == 0)⟩) else .next (acc + (b - 128) * 128 ^ i, ⟨strOfB bs, false⟩)) := by
      unfold save_reader_number_b1
      show (save_reader_take _ _).bind _ = _
      have ht := take_ok (a := [b]) (bs := bs) (n := 1) rfl
      rw [show [b] ++ bs = b :: bs from rfl] at ht
      rw [ht]
      simp only [Option.bind_some, Bool.false_eq_true, if_false]
      rw [bat0 hb]
      simp only [Option.bind_some]
      rw [and127' hbb.1 hbb.2, w_i64 (n := b % 128) (by omega) (by omega), shl7 hm.2 hm.1 (by omega)]
      simp only [Option.bind_some]
      rw [or7 h0 h1 hm.2 hm.1 (by omega)]
      by_cases c : b < 128
      · rw [if_pos (by simpa using c), if_pos c, show b % 128 = b by omega]
        congr 3
        by_cases c1 : acc + b * 128 ^ i > bound
        · rw [if_pos (by simpa using c1)]; simp [c1]
        · rw [if_neg (by simpa using c1)]
          by_cases c2 : 0 < i
          · rw [if_pos (by simpa using c2)]; simp [c1, c2]
          · rw [if_neg (by simp; omega)]; simp [c1, c2]
      · rw [if_neg (by simpa using c), if_neg c, show b % 128 = b - 128 by omega]
    rw [hstep]
    simp only [Option.bind_some]
    by_cases c : b < 128
    · rw [if_pos c]
      simp only [Option.bind_some, rdN, if_pos c]
    · rw [if_neg c]
      simp only [rdN, if_neg c]
      have hnn : 0 ≤ (b - 128) * 128 ^ i := by rw [← c128]; exact Int.mul_nonneg (by omega) (by omega)
      have hlt : (b - 128) * 128 ^ i ≤ 127 * 128 ^ i := by rw [← c128]; exact Int.mul_le_mul_of_nonneg_right (by omega) (by omega)
      have := rd_loop bound k (i + 1) (acc + (b - 128) * 128 ^ i) bs (by omega) (fun x hx => hb x (by simp [hx])) (by omega) (by rw [Int.pow_succ]; omega)
      rw [show i + (k + 1) = i + 1 + k by omega]
      exact this

theorem number_eq {bs : List Int} (hb : Byte bs) (bound : Int) : save_reader_number ⟨strOfB bs, false⟩ bound = some ((rdN 5 0 0 bound bs).1, ⟨strOfB (rdN 5 0 0 bound bs).2.1, (rdN 5 0 0 bound bs).2.2⟩) := by
  have := rd_loop bound 5 0 0 bs rfl hb (by omega) (by decide)
  exact this

theorem rdN_sound (bound : Int) : ∀ (k i : Nat) (acc : Int) (bs : List Int), Byte bs → 0 ≤ acc → (∀ x ∈ (rdN k i acc bound bs).2.1, x ∈ bs) ∧ 0 ≤ (rdN k i acc bound bs).1 ∧ ((rdN k i acc bound bs).2.2 = false → ∃ m : Nat, bs = num m ++ (rdN k i acc bound bs).2.1 ∧ (rdN k i acc bound bs).1 = acc + (m : Int) * 128 ^ i ∧ (rdN k i acc bound bs).1 ≤ bound ∧ (0 < i → m ≠ 0))
  | 0, i, acc, bs, hb, h0 => ⟨fun x h => h, by simp [rdN], fun h => by simp [rdN] at h⟩
  | k + 1, i, acc, [], hb, h0 => ⟨fun x h => h, by simp [rdN], fun h => by simp [rdN] at h⟩
  | k + 1, i, acc, b :: bs, hb, h0 => by
    have hbb := hb b (by simp)
    have hpos : (0 : Int) < (128 ^ i : Nat) := by have := Nat.pow_pos (n := i) (show 0 < 128 by omega); omega
    rw [rdN]
    by_cases c : b < 128
    · rw [if_pos c]
      have hnn : 0 ≤ b * 128 ^ i := by rw [← c128]; exact Int.mul_nonneg (by omega) (by omega)
      refine ⟨fun x h => by simp [h], by show 0 ≤ acc + b * 128 ^ i; omega, fun h => ⟨b.toNat, ?_, ?_, ?_, ?_⟩⟩
      · rw [num_lt (by omega), show ((b.toNat : Nat) : Int) = b by omega]; rfl
      · show acc + b * 128 ^ i = _
        rw [show ((b.toNat : Nat) : Int) = b by omega]
      · simp at h; exact h.1
      · intro hi e
        simp at h
        exact h.2 hi (by omega)
    · rw [if_neg c]
      have hnn : 0 ≤ (b - 128) * 128 ^ i := by rw [← c128]; exact Int.mul_nonneg (by omega) (by omega)
      obtain ⟨g1, g2, g3⟩ := rdN_sound bound k (i + 1) (acc + (b - 128) * 128 ^ i) bs (fun x hx => hb x (by simp [hx])) (by omega)
      refine ⟨fun x h => by simp [g1 x h], g2, fun h => ?_⟩
      obtain ⟨m, e1, e2, e3, e4⟩ := g3 h
      have hm := e4 (by omega)
      refine ⟨(b - 128).toNat + 128 * m, ?_, ?_, e3, fun _ => by omega⟩
      · rw [num_ge (by omega), show ((b - 128).toNat + 128 * m) / 128 = m by omega, show ((128 + ((b - 128).toNat + 128 * m) % 128 : Nat) : Int) = b by omega]
        show b :: bs = b :: (num m ++ _)
        rw [← e1]
      · rw [e2, Int.pow_succ]
        rw [show (((b - 128).toNat + 128 * m : Nat) : Int) = (b - 128) + 128 * (m : Int) by omega, Int.add_mul, Int.add_assoc]
        congr 2
        rw [Int.mul_comm ((128 : Int) ^ i) 128, ← Int.mul_assoc, Int.mul_comm (m : Int) 128]

theorem rdN_num (bound : Int) (rest : List Int) : ∀ (k i : Nat) (acc : Int) (m : Nat), 0 < i + k → m < 128 ^ k → (0 < i → m ≠ 0) → acc + (m : Int) * 128 ^ i ≤ bound → rdN k i acc bound (num m ++ rest) = (acc + (m : Int) * 128 ^ i, rest, false)
  | 0, i, acc, m, hk, hm, hi, hb => by
    have : m = 0 := by simpa using hm
    exact (hi (by omega) this).elim
  | k + 1, i, acc, m, hk, hm, hi, hb => by
    by_cases c : m < 128
    · rw [num_lt c]
      show rdN (k + 1) i acc bound ((m : Int) :: rest) = _
      rw [rdN, if_pos (by omega)]
      congr 2
      have : decide (acc + (m : Int) * 128 ^ i > bound) = false := by simp; omega
      rw [this]
      by_cases c2 : 0 < i
      · have := hi c2
        simp [c2, this]
      · simp [c2]
    · rw [num_ge c]
      show rdN (k + 1) i acc bound (((128 + m % 128 : Nat) : Int) :: (num (m / 128) ++ rest)) = _
      have e : acc + ((((128 + m % 128 : Nat) : Int)) - 128) * 128 ^ i + ((m / 128 : Nat) : Int) * 128 ^ (i + 1) = acc + (m : Int) * 128 ^ i := by
        rw [Int.pow_succ, Int.mul_comm ((128 : Int) ^ i) 128, ← Int.mul_assoc, Int.add_assoc, ← Int.add_mul]
        congr 2
        omega
      rw [rdN, if_neg (by omega), rdN_num bound rest k (i + 1) _ (m / 128) (by omega) (by rw [Nat.div_lt_iff_lt_mul (by omega), ← Nat.pow_succ]; exact hm) (fun _ => by omega) (by rw [e]; exact hb), e]

theorem pow5 : (128 : Nat) ^ 5 = 34359738368 := by decide

theorem number_ok {n bound : Int} (rest : List Int) (hr : Byte rest) (h0 : 0 ≤ n) (h1 : n ≤ bound) (h2 : bound ≤ 99999) : save_reader_number ⟨strOfB (numI n ++ rest), false⟩ bound = some (n, ⟨strOfB rest, false⟩) := by
  rw [number_eq ((numI_byte n).app hr), show numI n = num n.toNat from rfl, rdN_num bound rest 5 0 0 n.toNat (by omega) (by rw [pow5]; omega) (fun h => by omega) (by simp; omega)]
  congr 2
  simp; omega

theorem number_bad (s : ByteArray) (bound : Int) : save_reader_number ⟨s, true⟩ bound = some (0, ⟨s, true⟩) := by
  unfold save_reader_number
  rw [show irange 0 5 = [0, 1, 2, 3, 4] from rfl]
  simp only [forR]
  have : save_reader_number_b1 bound 0 (0, ⟨s, true⟩) = some (.ret (0, ⟨s, true⟩)) := by
    unfold save_reader_number_b1
    show (save_reader_take _ _).bind _ = _
    rw [take_bad]; rfl
  rw [this]; rfl

theorem number_any {bs : List Int} (hb : Byte bs) (b0 : Bool) (bound : Int) : ∃ v rest bad, save_reader_number ⟨strOfB bs, b0⟩ bound = some (v, ⟨strOfB rest, bad⟩) ∧ Byte rest ∧ 0 ≤ v ∧ (bad = false → b0 = false ∧ v ≤ bound ∧ bs = numI v ++ rest) := by
  cases b0 with
  | true => exact ⟨0, bs, true, number_bad _ _, hb, by omega, fun h => by cases h⟩
  | false =>
    obtain ⟨g1, g2, g3⟩ := rdN_sound bound 5 0 0 bs hb (by omega)
    refine ⟨_, _, _, number_eq hb bound, fun x hx => hb x (g1 x hx), g2, fun h => ?_⟩
    obtain ⟨m, e1, e2, e3, _⟩ := g3 h
    refine ⟨rfl, e3, ?_⟩
    have : (rdN 5 0 0 bound bs).1 = (m : Int) := by rw [e2]; simp
    unfold numI
    rw [this, Int.toNat_natCast]
    exact e1

end Go.AM
