import Derived.Test.YtkgegocfjalcbaaDoorAmLp
import Derived.Test.YtkgegocfjalcbaaDoorCzT
/-  Sets as bits. -/
set_option linter.unusedVariables false
set_option linter.unusedSimpArgs false
namespace Go.AM
open Go

def bits (x : Nat) : List Nat := (List.range 64).filter fun e => x.testBit e

theorem mem_bits {x e : Nat} : e ∈ bits x ↔ e < 64 ∧ x.testBit e = true := by simp [bits]
theorem bits_len (x : Nat) : (bits x).length ≤ 64 := by
  have := List.length_filter_le (fun e => x.testBit e) (List.range 64)
  simpa [bits] using this

theorem ofInt_nat (n : Nat) : BitVec.ofInt 64 (n : Int) = BitVec.ofNat 64 n := BitVec.ofInt_natCast ..

theorem orI_nat {x y : Nat} (hx : x < 2 ^ 64) (hy : y < 2 ^ 64) : orI .u64 (x : Int) (y : Int) = ((x ||| y : Nat) : Int) := by
  have h := Nat.or_lt_two_pow hx hy
  show IntKind.u64.wrap (((BitVec.ofInt 64 (x : Int)) ||| (BitVec.ofInt 64 (y : Int))).toNat : Int) = _
  rw [ofInt_nat, ofInt_nat, BitVec.toNat_or, BitVec.toNat_ofNat, BitVec.toNat_ofNat, Nat.mod_eq_of_lt hx, Nat.mod_eq_of_lt hy, w_u64]
  omega
theorem andI_nat {x y : Nat} (hx : x < 2 ^ 64) (hy : y < 2 ^ 64) : andI .u64 (x : Int) (y : Int) = ((x &&& y : Nat) : Int) := by
  have h : x &&& y < 2 ^ 64 := Nat.and_lt_two_pow x hy
  show IntKind.u64.wrap (((BitVec.ofInt 64 (x : Int)) &&& (BitVec.ofInt 64 (y : Int))).toNat : Int) = _
  rw [ofInt_nat, ofInt_nat, BitVec.toNat_and, BitVec.toNat_ofNat, BitVec.toNat_ofNat, Nat.mod_eq_of_lt hx, Nat.mod_eq_of_lt hy, w_u64]
  omega
def sub64 (x y : Nat) : Nat := x ^^^ (x &&& y)
theorem sub64_bit (x y i : Nat) : (sub64 x y).testBit i = (x.testBit i && !y.testBit i) := by
  simp only [sub64, Nat.testBit_xor, Nat.testBit_and]
  cases x.testBit i <;> cases y.testBit i <;> rfl
theorem sub64_lt {x : Nat} (hx : x < 2 ^ 64) (y : Nat) : sub64 x y < 2 ^ 64 := Nat.xor_lt_two_pow hx (by rw [Nat.and_comm]; exact Nat.and_lt_two_pow y hx)
theorem pow_le {i : Nat} (h : i < 64) : 2 ^ i ≤ 9223372036854775808 := by
  have : 2 ^ i ≤ 2 ^ 63 := Nat.pow_le_pow_right (by omega) (by omega)
  omega

theorem pow02 {i : Nat} (h : i < 64) : ref02_pow (i : Int) = some ((2 ^ i : Nat) : Int) := by
  have := forO_map ref02_pow_b1 (fun j s => s = ((2 ^ j : Nat) : Int)) i 0 1 (by simp) (fun j s _ hj hs => by
    refine ⟨_, rfl, ?_⟩
    subst hs
    have := pow_le (i := j + 1) (by omega)
    rw [Nat.pow_succ] at this
    rw [w_u64, Nat.pow_succ]
    generalize 2 ^ j = q at *
    omega)
  obtain ⟨s, e, hs⟩ := this
  unfold ref02_pow
  rw [show (irange 0 (i : Int)) = irange ((0 : Nat) : Int) ((0 + i : Nat) : Int) by simp, e]
  simp [hs]

theorem quo_pow {x i : Nat} (hx : x < 2 ^ 64) : quoI .u64 (x : Int) ((2 ^ i : Nat) : Int) = some ((x / 2 ^ i : Nat) : Int) := by
  have h0 : 0 < 2 ^ i := Nat.two_pow_pos i
  unfold quoI
  rw [if_neg (by omega), Int.tdiv_eq_ediv_of_nonneg (by omega), w_u64]
  generalize 2 ^ i = q at *
  have : x / q ≤ x := Nat.div_le_self _ _
  rw [← Int.natCast_ediv]
  generalize x / q = r at *
  congr 1
  omega

theorem has02 {x : Nat} (hx : x < 2 ^ 64) {e : Int} : ref02_Has (x : Int) e = some (decide (0 ≤ e ∧ e < 64) && x.testBit e.toNat) := by
  unfold ref02_Has
  by_cases h0 : e ≥ 0
  · by_cases h1 : e < 64
    · obtain ⟨i, rfl⟩ : ∃ i : Nat, e = i := ⟨e.toNat, by omega⟩
      rw [if_pos (by simp), if_pos (by simp [h1]), pow02 (by omega)]
      simp only [Option.bind_some]
      rw [quo_pow hx]
      simp only [Option.bind_some, Option.some.injEq]
      rw [decide_eq_true (show (0 : Int) ≤ i ∧ (i : Int) < 64 from ⟨h0, h1⟩)]
      simp only [Bool.true_and, Int.toNat_natCast, Nat.testBit_eq_decide_div_mod_eq]
      generalize x / 2 ^ i = q
      have : ((q : Nat) : Int).tmod 2 = ((q % 2 : Nat) : Int) := by rw [Int.tmod_eq_emod_of_nonneg (by omega)]; omega
      rw [this, Bool.eq_iff_iff]
      simp only [beq_iff_eq, decide_eq_true_eq]
      omega
    · rw [if_pos (by simpa using h0), if_neg (by simpa using h1)]
      simp [h1]
  · rw [if_neg (by simpa using h0)]
    simp; omega

theorem hasN {x e : Nat} (hx : x < 2 ^ 64) (he : e < 64) : ref02_Has (x : Int) (e : Int) = some (x.testBit e) := by
  rw [has02 hx, decide_eq_true (show (0 : Int) ≤ e ∧ (e : Int) < 64 by omega)]; simp

theorem lt_of_bit {x e : Nat} (hx : x < 2 ^ 64) (h : x.testBit e = true) : e < 64 := by
  rcases Nat.lt_or_ge e 64 with c | c
  · exact c
  · rw [Nat.testBit_lt_two_pow (Nat.lt_of_lt_of_le hx (Nat.pow_le_pow_right (by omega) c))] at h; cases h

def castL (l : List Nat) : List Int := l.map fun (n : Nat) => (n : Int)
theorem castL_len (l : List Nat) : (castL l).length = l.length := by simp [castL]
theorem events_bitN {e : Nat} (h : e < 64) : events_bit (e : Int) = some ((2 ^ e : Nat) : Int) := by
  unfold events_bit
  rw [if_neg (by simp; omega)]
  unfold shlI
  rw [if_neg (by omega)]
  have := pow_le h
  simp only [Option.bind_some, Option.some.injEq, Int.toNat_natCast]
  rw [show min e IntKind.u64.bits = e from Nat.min_eq_left (by simp [IntKind.bits]; omega), w_u64, Int.one_mul]
  have e1 : (2 : Int) ^ e = ((2 ^ e : Nat) : Int) := by simp
  rw [e1]
  generalize 2 ^ e = q at *
  omega

theorem bits_ne {x : Nat} (hx : x < 2 ^ 64) (h : x ≠ 0) : bits x ≠ [] := by
  intro hb
  apply h
  apply Nat.eq_of_testBit_eq
  intro i
  rw [Nat.zero_testBit]
  cases c : x.testBit i
  · rfl
  · have : i ∈ bits x := mem_bits.2 ⟨lt_of_bit hx c, c⟩
    rw [hb] at this; cases this

theorem bits_sorted (x : Nat) : (bits x).Pairwise (· < ·) := List.Pairwise.filter _ List.pairwise_lt_range

theorem sub_bits {x e : Nat} {l : List Nat} (h : bits x = e :: l) : bits (sub64 x (2 ^ e)) = l := by
  have hs := bits_sorted x
  rw [h] at hs
  have hl := (List.pairwise_cons.1 hs).1
  have e1 : bits (sub64 x (2 ^ e)) = (bits x).filter fun i => i != e := by
    unfold bits
    rw [List.filter_filter]
    refine List.filter_congr fun i hi => ?_
    rw [sub64_bit, Nat.testBit_two_pow]
    by_cases c : e = i
    · subst c; simp
    · have : i ≠ e := fun h => c h.symm
      simp [c, this]
  rw [e1, h, List.filter_cons]
  simp only [bne_self_eq_false, Bool.false_eq_true, if_false]
  rw [List.filter_eq_self]
  intro i hi
  have := hl i hi
  simp; omega

theorem low_bits {x : Nat} {e : Nat} {l : List Nat} (h : bits x = e :: l) : e < 64 ∧ x.testBit e = true ∧ ∀ j, j < e → x.testBit j = false := by
  have hm : e ∈ bits x := by rw [h]; simp
  obtain ⟨h1, h2⟩ := mem_bits.1 hm
  refine ⟨h1, h2, fun j hj => ?_⟩
  cases c : x.testBit j
  · rfl
  · have : j ∈ bits x := mem_bits.2 ⟨by omega, c⟩
    have hs := bits_sorted x
    rw [h] at hs this
    rcases List.mem_cons.1 this with rfl | h3
    · omega
    · have := (List.pairwise_cons.1 hs).1 j h3; omega

theorem neg_low {x e : Nat} (hx : x < 2 ^ 64) (he : e < 64) (h1 : x.testBit e = true) (h2 : ∀ j, j < e → x.testBit j = false) : x &&& (2 ^ 64 - x) = 2 ^ e := by
  -- x = 2^e * (2 * q + 1)
  have hmod : x % 2 ^ e = 0 := by
    apply Nat.eq_of_testBit_eq
    intro i
    rw [Nat.testBit_mod_two_pow, Nat.zero_testBit]
    by_cases c : i < e
    · simp [h2 i c]
    · simp [c]
  have hodd : x / 2 ^ e % 2 = 1 := by simpa [Nat.testBit_eq_decide_div_mod_eq] using h1
  have hp : 0 < 2 ^ e := Nat.two_pow_pos e
  have hpp : 2 ^ e * 2 ^ (64 - e) = 2 ^ 64 := by rw [← Nat.pow_add]; congr 1; omega
  have hd := Nat.div_add_mod x (2 ^ e)
  rw [hmod, Nat.add_zero] at hd
  have hq : x / 2 ^ e < 2 ^ (64 - e) := by
    rw [Nat.div_lt_iff_lt_mul hp, Nat.mul_comm, hpp]; exact hx
  generalize x / 2 ^ e = q at *
  subst hd
  rw [show 2 ^ 64 - 2 ^ e * q = 2 ^ e * (2 ^ (64 - e) - q) by rw [Nat.mul_sub, hpp]]
  apply Nat.eq_of_testBit_eq
  intro i
  rw [Nat.testBit_and, Nat.testBit_two_pow, Nat.testBit_two_pow_mul, Nat.testBit_two_pow_mul]
  by_cases c : i < e
  · simp [show ¬ e ≤ i by omega, show e ≠ i by omega]
  · have hge : e ≤ i := by omega
    simp only [hge, decide_true, Bool.true_and]
    obtain ⟨d, rfl⟩ : ∃ d, i = e + d := ⟨i - e, by omega⟩
    rw [Nat.add_sub_cancel_left]
    have hm0 : 64 - e ≠ 0 := by omega
    generalize 64 - e = m at *
    cases d with
    | zero =>
      have hm1 : (2 ^ m - q).testBit 0 = true := by
        have : 2 ^ m % 2 = 0 := by
          cases m with
          | zero => exact (hm0 rfl).elim
          | succ m => rw [Nat.pow_succ]; omega
        simp [Nat.testBit_zero]; omega
      rw [hm1]
      simp [Nat.testBit_zero, hodd]
    | succ d =>
      have hq1 : q - 1 < 2 ^ m := by omega
      rw [show 2 ^ m - q = 2 ^ m - ((q - 1) + 1) by omega, Nat.testBit_two_pow_sub_succ hq1]
      have e2 : (q - 1).testBit (d + 1) = q.testBit (d + 1) := by
        rw [Nat.testBit_succ, Nat.testBit_succ]; congr 1; omega
      rw [e2]
      cases q.testBit (d + 1) <;> simp

theorem tz_table : ∀ e : Nat, e < 64 → gat gtab0 ((IntKind.u64.wrap (((2 ^ e : Nat) : Int) * 285870213051353865)).fdiv (2 ^ 58)) = some (e : Int) := by decide +kernel

theorem tz_ok {x e : Nat} {l : List Nat} (hx : x < 2 ^ 64) (h : bits x = e :: l) : math_bits_TrailingZeros64 (x : Int) = some (e : Int) := by
  obtain ⟨h1, h2, h3⟩ := low_bits h
  have h0 : x ≠ 0 := by rintro rfl; rw [Nat.zero_testBit] at h2; cases h2
  unfold math_bits_TrailingZeros64
  rw [if_neg (by simpa using h0)]
  have e1 : IntKind.u64.wrap (0 - (x : Int)) = ((2 ^ 64 - x : Nat) : Int) := by rw [w_u64]; omega
  rw [e1, andI_nat hx (by omega), neg_low hx h1 h2 h3, tz_table e h1]
  simp only [Option.bind_some, Option.some.injEq]
  exact w_i64 (by omega) (by omega)


end Go.AM
