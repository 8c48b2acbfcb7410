import Derived.Test.YtjdaaclkihjjnaaAmN6
import Derived.Test.YtjdaaclkihjjnaaFrT
/-
  Plain facts: bytes, words, sums with weights.
-/
set_option linter.unusedVariables false
set_option linter.unusedSimpArgs false
namespace Go.AM
open Go

def Byte (l : List Int) : Prop := ∀ b ∈ l, 0 ≤ b ∧ b < 256
def Word (l : List Int) : Prop := ∀ b ∈ l, 0 ≤ b ∧ b < 65536

theorem w_u8 (n : Int) : IntKind.u8.wrap n = n % 256 := wrap_u8 n
theorem w_u16 (n : Int) : IntKind.u16.wrap n = n % 65536 := wrap_u16 n
theorem w_u64 (n : Int) : IntKind.u64.wrap n = n % 18446744073709551616 := wrap_u64 n
theorem w_i64 {n : Int} (h0 : -9223372036854775808 ≤ n) (h1 : n < 9223372036854775808) : IntKind.i64.wrap n = n := wrap_i64 h0 h1

theorem strOfB_size (l : List Int) : (strOfB l).size = l.length := by simp [strOfB, ByteArray.size]

theorem bytesOf_byte (s : ByteArray) : Byte (bytesOf s) := by
  intro b hb
  obtain ⟨c, _, rfl⟩ := List.mem_map.1 hb
  have := c.toNat_lt
  omega

theorem strOfB_bytesOf (s : ByteArray) : strOfB (bytesOf s) = s := by
  have e : ((fun b : Int => UInt8.ofNat b.toNat) ∘ fun b : UInt8 => (b.toNat : Int)) = id := by funext b; simp
  simp only [strOfB, bytesOf, List.map_map, e, List.map_id, Array.toArray_toList]

theorem bytesOf_strOfB {l : List Int} (h : Byte l) : bytesOf (strOfB l) = l := by
  simp only [bytesOf, strOfB, List.map_map]
  conv => rhs; rw [← List.map_id l]
  refine List.map_congr_left fun b hb => ?_
  obtain ⟨h0, h1⟩ := h b hb
  simp
  omega

theorem bytesOf_len (s : ByteArray) : (bytesOf s).length = s.size := by
  show (List.map _ s.data.toList).length = s.data.size
  rw [List.length_map, Array.length_toList]

theorem strOfB_inj {l m : List Int} (hl : Byte l) (hm : Byte m) (h : strOfB l = strOfB m) : l = m := by
  rw [← bytesOf_strOfB hl, ← bytesOf_strOfB hm, h]

theorem seqB_eq (a b : ByteArray) : seqB a b = decide (a = b) := by
  unfold seqB
  rw [Bool.eq_iff_iff]
  simp [ba_toList_inj]

theorem seqB_strOfB {l m : List Int} (hl : Byte l) (hm : Byte m) : seqB (strOfB l) (strOfB m) = decide (l = m) := by
  rw [seqB_eq]
  rw [Bool.eq_iff_iff]
  simp only [decide_eq_true_eq]
  exact ⟨strOfB_inj hl hm, fun h => by rw [h]⟩

theorem bat_strOfB {l : List Int} (h : Byte l) {i : Nat} {b : Int} (hb : l[i]? = some b) : bat (strOfB l) (i : Int) = some b := by
  have hm : b ∈ l := List.mem_of_getElem? hb
  obtain ⟨h0, h1⟩ := h b hm
  simp only [bat, strOfB, Int.natCast_nonneg, if_true, Int.toNat_natCast, List.getElem?_map, hb, Option.map_some]
  have : ((UInt8.ofNat b.toNat).toNat : Int) = b := by simp; omega
  rw [this]

theorem scut_strOfB (l : List Int) {a b : Nat} (h1 : a ≤ b) (h2 : b ≤ l.length) : scut (strOfB l) (a : Int) (b : Int) = some (strOfB ((l.drop a).take (b - a))) := by
  unfold scut
  rw [if_pos (by rw [strOfB_size]; omega)]
  congr 1
  ext1
  simp only [strOfB, ByteArray.extract, ByteArray.copySlice, Int.toNat_natCast]
  apply Array.ext'
  simp [List.map_drop, List.map_take, List.extract_eq_take_drop]

theorem gs2b_strOfB {l : List Int} (h : Byte l) (hl : l.length ≤ 4294967296) : gs2b (strOfB l) = some l := by
  unfold gs2b
  rw [if_pos (by rw [strOfB_size]; exact hl), bytesOf_strOfB h]

/-- the weighted sum of bytes, the first one's weight i + 1 -/
def wsum : Nat → List Int → Int
  | _, [] => 0
  | i, b :: l => (i + 1) * b + wsum (i + 1) l

theorem wsum_bound : ∀ (l : List Int) (i : Nat), Byte l → 0 ≤ wsum i l ∧ wsum i l ≤ 256 * ((i + l.length) * l.length)
  | [], i, _ => by simp [wsum]
  | b :: l, i, h => by
    obtain ⟨h0, h1⟩ := h b (by simp)
    obtain ⟨k0, k1⟩ := wsum_bound l (i + 1) fun x hx => h x (by simp [hx])
    simp only [wsum, List.length_cons]
    have e1 : ((i : Int) + 1) * b ≤ ((i : Int) + 1) * 256 := Int.mul_le_mul_of_nonneg_left (by omega) (by omega)
    have e2 : 0 ≤ ((i : Int) + 1) * b := Int.mul_nonneg (by omega) h0
    push_cast at k1 ⊢
    refine ⟨by omega, ?_⟩
    have e3 : ((i : Int) + (l.length + 1)) * (l.length + 1) = ((i : Int) + 1 + l.length) * l.length + ((i : Int) + 1 + l.length) := by
      rw [show ((i : Int) + (l.length + 1)) = ((i : Int) + 1 + l.length) by omega, Int.mul_add, Int.mul_one]
    rw [e3, Int.mul_add]
    omega

theorem irange_nat (i k : Nat) : irange (i : Int) ((i + k : Nat) : Int) = (List.range k).map fun (j : Nat) => ((i + j : Nat) : Int) := by
  simp only [irange]
  rw [show (((i + k : Nat) : Int) - (i : Int)).toNat = k by omega]
  refine List.map_congr_left fun j _ => ?_
  push_cast; rfl

theorem irangeN_cons (i k : Nat) : irange (i : Int) ((i + (k + 1) : Nat) : Int) = (i : Int) :: irange ((i + 1 : Nat) : Int) ((i + (k + 1) : Nat) : Int) := by
  rw [irange_nat, show i + (k + 1) = (i + 1) + k by omega, irange_nat, List.range_succ_eq_map]
  simp only [List.map_cons, List.map_map, Nat.add_zero]
  congr 1
  refine List.map_congr_left fun j _ => ?_
  simp only [Function.comp_apply, Nat.succ_eq_add_one]
  push_cast; omega

theorem irangeN_nil (i : Nat) : irange (i : Int) (i : Int) = [] := by simp [irange]

theorem check_loop (l : List Int) (hb : Byte l) (hl : l.length ≤ 10000) : ∀ (k i : Nat) (s : Int), i + k = l.length → 0 ≤ s → s ≤ 2560000 * (i : Int) → forO (frame_check_b1 l) (irange (i : Int) ((i + k : Nat) : Int)) s = some (s + wsum i (l.drop i)) ∧ forO (ref03_Check_b1 l) (irange (i : Int) ((i + k : Nat) : Int)) (s % 65521) = some ((s + wsum i (l.drop i)) % 65521)
  | 0, i, s, hik, h0, h1 => by
    rw [Nat.add_zero, irangeN_nil, List.drop_eq_nil_of_le (by omega)]
    simp [forO, wsum]
  | k + 1, i, s, hik, h0, h1 => by
    have hi : i < l.length := by omega
    obtain ⟨b0, b1⟩ := hb l[i] (by simp)
    have hg : gat l (i : Int) = some l[i] := by simp [gat, hi]
    have m0 : 0 ≤ ((i : Int) + 1) * l[i] := Int.mul_nonneg (by omega) b0
    have m1 : ((i : Int) + 1) * l[i] ≤ ((i : Int) + 1) * 256 := Int.mul_le_mul_of_nonneg_left (by omega) (by omega)
    have hs1 : IntKind.i64.wrap (s + IntKind.i64.wrap (((i : Int) + 1) * IntKind.i64.wrap l[i])) = s + ((i : Int) + 1) * l[i] := by
      rw [w_i64 (n := l[i]) (by omega) (by omega), w_i64 (n := ((i : Int) + 1) * l[i]) (by omega) (by omega), w_i64 (by omega) (by omega)]
    have hs2 : (IntKind.i64.wrap (s % 65521 + IntKind.i64.wrap (((i : Int) + 1) * IntKind.i64.wrap l[i]))).tmod 65521 = (s + ((i : Int) + 1) * l[i]) % 65521 := by
      rw [w_i64 (n := l[i]) (by omega) (by omega), w_i64 (n := ((i : Int) + 1) * l[i]) (by omega) (by omega), w_i64 (by omega) (by omega), Int.tmod_eq_emod_of_nonneg (by omega)]
      omega
    obtain ⟨ih1, ih2⟩ := check_loop l hb hl k (i + 1) (s + ((i : Int) + 1) * l[i]) (by omega) (by omega) (by push_cast; omega)
    rw [irangeN_cons, List.drop_eq_getElem_cons hi]
    have e : i + (k + 1) = i + 1 + k := by omega
    simp only [forO, frame_check_b1, ref03_Check_b1, hg, Option.bind_some, hs1, hs2, wsum, e, ih1, ih2]
    constructor <;> (congr 1; rw [Int.add_assoc])

theorem check_f {l : List Int} (hb : Byte l) (hl : l.length ≤ 10000) : frame_check l = some (wsum 0 l % 65521) := by
  have h := (check_loop l hb hl l.length 0 0 (by omega) (by omega) (by omega)).1
  obtain ⟨k0, k1⟩ := wsum_bound l 0 hb
  simp only [Nat.zero_add, Int.zero_add, List.drop_zero] at h
  simp only [frame_check]
  have h' : forO (frame_check_b1 l) (irange 0 (l.length : Int)) 0 = some (wsum 0 l) := h
  rw [h']
  simp only [Option.bind_some]
  rw [Int.tmod_eq_emod_of_nonneg k0, w_u16, Int.emod_eq_of_lt (by omega) (by omega)]

theorem check_r {l : List Int} (hb : Byte l) (hl : l.length ≤ 10000) : ref03_Check l = some (wsum 0 l % 65521) := by
  have h := (check_loop l hb hl l.length 0 0 (by omega) (by omega) (by omega)).2
  obtain ⟨k0, k1⟩ := wsum_bound l 0 hb
  simp only [Nat.zero_add, Int.zero_add, List.drop_zero] at h
  simp only [ref03_Check]
  have h' : forO (ref03_Check_b1 l) (irange 0 (l.length : Int)) 0 = some (wsum 0 l % 65521) := h
  rw [h']
  simp only [Option.bind_some]
  rw [w_u16, Int.emod_eq_of_lt (by omega) (by omega)]

theorem or_nat (bits m x y : Nat) (hy : y < 2 ^ m) (hxy : x * 2 ^ m + y < 2 ^ bits) : (BitVec.ofInt bits ((x * 2 ^ m : Nat) : Int) ||| BitVec.ofInt bits (y : Int)).toNat = x * 2 ^ m + y := by
  rw [BitVec.ofInt_natCast, BitVec.ofInt_natCast, BitVec.toNat_or, BitVec.toNat_ofNat, BitVec.toNat_ofNat, Nat.mod_eq_of_lt (by omega), Nat.mod_eq_of_lt (by omega)]
  rw [← Nat.shiftLeft_eq, ← Nat.shiftLeft_add_eq_or_of_lt hy, Nat.shiftLeft_eq]

theorem or16 {a b : Int} (ha : 0 ≤ a ∧ a < 256) (hb : 0 ≤ b ∧ b < 256) : orI .u16 (IntKind.u16.wrap (IntKind.u16.wrap a * 2 ^ 8)) (IntKind.u16.wrap b) = a * 256 + b := by
  rw [w_u16, w_u16, w_u16, Int.emod_eq_of_lt ha.1 (by omega), Int.emod_eq_of_lt hb.1 (by omega), Int.emod_eq_of_lt (by omega) (by omega)]
  have := or_nat 16 8 a.toNat b.toNat (by omega) (by omega)
  have ea : a * 2 ^ 8 = ((a.toNat * 2 ^ 8 : Nat) : Int) := by omega
  have eb : b = ((b.toNat : Nat) : Int) := by omega
  unfold orI
  have hbits : IntKind.u16.bits = 16 := rfl
  rw [hbits, ea]
  conv => lhs; rw [eb]
  rw [this, w_u16]
  omega

theorem or64 {a b : Int} (ha : 0 ≤ a ∧ a < 281474976710656) (hb : 0 ≤ b ∧ b < 65536) : orI .u64 (IntKind.u64.wrap (a * 2 ^ 16)) (IntKind.u64.wrap b) = a * 65536 + b := by
  rw [w_u64, w_u64, Int.emod_eq_of_lt (by omega) (by omega), Int.emod_eq_of_lt hb.1 (by omega)]
  have := or_nat 64 16 a.toNat b.toNat (by omega) (by omega)
  have ea : a * 2 ^ 16 = ((a.toNat * 2 ^ 16 : Nat) : Int) := by omega
  have eb : b = ((b.toNat : Nat) : Int) := by omega
  unfold orI
  have hbits : IntKind.u64.bits = 64 := rfl
  rw [hbits, ea]
  conv => lhs; rw [eb]
  rw [this, w_u64]
  omega

end Go.AM
