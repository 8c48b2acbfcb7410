import Derived.Test.YtjdaaclkihjjnaaDoorAmN6
/-
  Bytes, strings, ranges: facts for plain laws.
-/
set_option linter.unusedVariables false
set_option linter.unusedSectionVars false
set_option linter.unusedSimpArgs false
namespace Go.AM
open Go

def Byte (l : List Int) : Prop := ∀ b ∈ l, 0 ≤ b ∧ b < 256
def Word (l : List Int) : Prop := ∀ b ∈ l, 0 ≤ b ∧ b < 65536

theorem w_u8 (n : Int) : IntKind.u8.wrap n = n % 256 := wrap_u8 n
theorem w_u16 (n : Int) : IntKind.u16.wrap n = n % 65536 := wrap_u16 n
theorem w_u64 (n : Int) : IntKind.u64.wrap n = n % 18446744073709551616 := wrap_u64 n
theorem w_i64 {n : Int} (h0 : -9223372036854775808 ≤ n) (h1 : n < 9223372036854775808) : IntKind.i64.wrap n = n := wrap_i64 h0 h1

theorem strOfB_size (l : List Int) : (strOfB l).size = l.length := by simp [strOfB, ByteArray.size]

theorem bytesOf_byte (s : ByteArray) : Byte (bytesOf s) := by
  intro b hb
  obtain ⟨c, _, rfl⟩ := List.mem_map.1 hb
  have := c.toNat_lt
  omega

theorem strOfB_bytesOf (s : ByteArray) : strOfB (bytesOf s) = s := by
  have e : ((fun b : Int => UInt8.ofNat b.toNat) ∘ fun b : UInt8 => (b.toNat : Int)) = id := by funext b; simp
  simp only [strOfB, bytesOf, List.map_map, e, List.map_id, Array.toArray_toList]

theorem bytesOf_strOfB {l : List Int} (h : Byte l) : bytesOf (strOfB l) = l := by
  simp only [bytesOf, strOfB, List.map_map]
  conv => rhs; rw [← List.map_id l]
  refine List.map_congr_left fun b hb => ?_
  obtain ⟨h0, h1⟩ := h b hb
  simp
  omega

theorem bytesOf_len (s : ByteArray) : (bytesOf s).length = s.size := by
  show (List.map _ s.data.toList).length = s.data.size
  rw [List.length_map, Array.length_toList]

theorem strOfB_inj {l m : List Int} (hl : Byte l) (hm : Byte m) (h : strOfB l = strOfB m) : l = m := by
  rw [← bytesOf_strOfB hl, ← bytesOf_strOfB hm, h]

theorem seqB_eq (a b : ByteArray) : seqB a b = decide (a = b) := by
  unfold seqB
  rw [Bool.eq_iff_iff]
  simp [ba_toList_inj]

theorem seqB_strOfB {l m : List Int} (hl : Byte l) (hm : Byte m) : seqB (strOfB l) (strOfB m) = decide (l = m) := by
  rw [seqB_eq]
  rw [Bool.eq_iff_iff]
  simp only [decide_eq_true_eq]
  exact ⟨strOfB_inj hl hm, fun h => by rw [h]⟩

theorem bat_strOfB {l : List Int} (h : Byte l) {i : Nat} {b : Int} (hb : l[i]? = some b) : bat (strOfB l) (i : Int) = some b := by
  have hm : b ∈ l := List.mem_of_getElem? hb
  obtain ⟨h0, h1⟩ := h b hm
  simp only [bat, strOfB, Int.natCast_nonneg, if_true, Int.toNat_natCast, List.getElem?_map, hb, Option.map_some]
  have : ((UInt8.ofNat b.toNat).toNat : Int) = b := by simp; omega
  rw [this]

theorem scut_strOfB (l : List Int) {a b : Nat} (h1 : a ≤ b) (h2 : b ≤ l.length) : scut (strOfB l) (a : Int) (b : Int) = some (strOfB ((l.drop a).take (b - a))) := by
  unfold scut
  rw [if_pos (by rw [strOfB_size]; omega)]
  congr 1
  ext1
  simp only [strOfB, ByteArray.extract, ByteArray.copySlice, Int.toNat_natCast]
  apply Array.ext'
  simp [List.map_drop, List.map_take, List.extract_eq_take_drop]

theorem gs2b_strOfB {l : List Int} (h : Byte l) (hl : l.length ≤ 4294967296) : gs2b (strOfB l) = some l := by
  unfold gs2b
  rw [if_pos (by rw [strOfB_size]; exact hl), bytesOf_strOfB h]

/-- the weighted sum of bytes, the first one's weight i + 1 -/
def wsum : Nat → List Int → Int
  | _, [] => 0
  | i, b :: l => (i + 1) * b + wsum (i + 1) l

theorem wsum_bound : ∀ (l : List Int) (i : Nat), Byte l → 0 ≤ wsum i l ∧ wsum i l ≤ 256 * ((i + l.length) * l.length)
  | [], i, _ => by simp [wsum]
  | b :: l, i, h => by
    obtain ⟨h0, h1⟩ := h b (by simp)
    obtain ⟨k0, k1⟩ := wsum_bound l (i + 1) fun x hx => h x (by simp [hx])
    simp only [wsum, List.length_cons]
    have e1 : ((i : Int) + 1) * b ≤ ((i : Int) + 1) * 256 := Int.mul_le_mul_of_nonneg_left (by omega) (by omega)
    have e2 : 0 ≤ ((i : Int) + 1) * b := Int.mul_nonneg (by omega) h0
    push_cast at k1 ⊢
    refine ⟨by omega, ?_⟩
    have e3 : ((i : Int) + (l.length + 1)) * (l.length + 1) = ((i : Int) + 1 + l.length) * l.length + ((i : Int) + 1 + l.length) := by
      rw [show ((i : Int) + (l.length + 1)) = ((i : Int) + 1 + l.length) by omega, Int.mul_add, Int.mul_one]
    rw [e3, Int.mul_add]
    omega

theorem irange_nat (i k : Nat) : irange (i : Int) ((i + k : Nat) : Int) = (List.range k).map fun (j : Nat) => ((i + j : Nat) : Int) := by
  simp only [irange]
  rw [show (((i + k : Nat) : Int) - (i : Int)).toNat = k by omega]
  refine List.map_congr_left fun j _ => ?_
  push_cast; rfl

theorem irangeN_cons (i k : Nat) : irange (i : Int) ((i + (k + 1) : Nat) : Int) = (i : Int) :: irange ((i + 1 : Nat) : Int) ((i + (k + 1) : Nat) : Int) := by
  rw [irange_nat, show i + (k + 1) = (i + 1) + k by omega, irange_nat, List.range_succ_eq_map]
  simp only [List.map_cons, List.map_map, Nat.add_zero]
  congr 1
  refine List.map_congr_left fun j _ => ?_
  simp only [Function.comp_apply, Nat.succ_eq_add_one]
  push_cast; omega

theorem irangeN_nil (i : Nat) : irange (i : Int) (i : Int) = [] := by simp [irange]

theorem or_nat (bits m x y : Nat) (hy : y < 2 ^ m) (hxy : x * 2 ^ m + y < 2 ^ bits) : (BitVec.ofInt bits ((x * 2 ^ m : Nat) : Int) ||| BitVec.ofInt bits (y : Int)).toNat = x * 2 ^ m + y := by
  rw [BitVec.ofInt_natCast, BitVec.ofInt_natCast, BitVec.toNat_or, BitVec.toNat_ofNat, BitVec.toNat_ofNat, Nat.mod_eq_of_lt (by omega), Nat.mod_eq_of_lt (by omega)]
  rw [← Nat.shiftLeft_eq, ← Nat.shiftLeft_add_eq_or_of_lt hy, Nat.shiftLeft_eq]


theorem gapp_some {α : Type} {xs ys : List α} (h : xs.length + ys.length ≤ 4294967296) : gapp xs ys = some (xs ++ ys) := by unfold gapp; rw [if_pos h]

theorem gat_nat {α : Type} (l : List α) (i : Nat) : gat l (i : Int) = l[i]? := by
  unfold gat; rw [if_pos (by omega), Int.toNat_natCast]

theorem irange0 (n : Nat) : irange 0 (n : Int) = (List.range n).map fun (i : Nat) => (i : Int) := by
  unfold irange; simp

theorem FUEL_big (k : Nat) (h : k ≤ 1000000) : ∃ m, FUEL = m + k := ⟨FUEL - k, by unfold FUEL; omega⟩

theorem forO_map {σ : Type} (f : Int → σ → Option σ) (P : Nat → σ → Prop) : ∀ (k i : Nat) (s : σ), P i s → (∀ j s, i ≤ j → j < i + k → P j s → ∃ s', f (j : Int) s = some s' ∧ P (j + 1) s') →
    ∃ s', forO f (irange (i : Int) ((i + k : Nat) : Int)) s = some s' ∧ P (i + k) s'
  | 0, i, s, h, _ => ⟨s, by rw [show i + 0 = i from rfl, irangeN_nil]; rfl, h⟩
  | k + 1, i, s, h, hs => by
    obtain ⟨s1, e1, h1⟩ := hs i s (Nat.le_refl _) (by omega) h
    obtain ⟨s2, e2, h2⟩ := forO_map f P k (i + 1) s1 h1 fun j s hj hk => hs j s (by omega) (by omega)
    refine ⟨s2, ?_, by rwa [show i + (k + 1) = i + 1 + k by omega]⟩
    rw [irangeN_cons]
    simp only [forO]
    rw [e1]
    simp only [Option.bind_some]
    rw [show i + (k + 1) = i + 1 + k by omega]
    exact e2

/-- A loop over a list, told as a fold. -/
theorem forO_list {α σ : Type} (f : Int → σ → Option σ) (l : List α) (P : List α → σ → Prop) (s : σ) (h0 : P [] s) (hs : ∀ i x s, l[i]? = some x → P (l.take i) s → ∃ s', f (i : Int) s = some s' ∧ P (l.take i ++ [x]) s') :
    ∃ s', forO f (irange 0 (l.length : Int)) s = some s' ∧ P l s' := by
  have := forO_map f (fun i s => P (l.take i) s) l.length 0 s (by simpa using h0) (fun j s _ hj h => by
    have hj' : j < l.length := by omega
    obtain ⟨s', e, h'⟩ := hs j l[j] s (List.getElem?_eq_getElem hj') h
    exact ⟨s', e, by rwa [List.take_add_one, List.getElem?_eq_getElem hj']⟩)
  obtain ⟨s', e, h'⟩ := this
  refine ⟨s', by simpa using e, by simpa using h'⟩

theorem forR_map {σ ρ : Type} (f : Int → σ → Option (Br σ ρ)) (P : Nat → σ → Prop) (B : σ → Prop) (R : ρ → Prop) : ∀ (k i : Nat) (s : σ), P i s → (∀ j s, i ≤ j → j < i + k → P j s → (∃ s', f (j : Int) s = some (.next s') ∧ P (j + 1) s') ∨ (∃ s', f (j : Int) s = some (.brk s') ∧ B s') ∨ ∃ r, f (j : Int) s = some (.ret r) ∧ R r) →
    (∃ s', forR f (irange (i : Int) ((i + k : Nat) : Int)) s = some (.done s') ∧ (P (i + k) s' ∨ B s')) ∨ ∃ r, forR f (irange (i : Int) ((i + k : Nat) : Int)) s = some (.ret r) ∧ R r
  | 0, i, s, h, _ => .inl ⟨s, by rw [show i + 0 = i from rfl, irangeN_nil]; rfl, .inl h⟩
  | k + 1, i, s, h, hs => by
    rw [irangeN_cons]
    simp only [forR]
    rcases hs i s (Nat.le_refl _) (by omega) h with ⟨s1, e1, h1⟩ | ⟨s1, e1, h1⟩ | ⟨r, e1, h1⟩
    · rw [e1]
      simp only [Option.bind_some]
      rw [show i + (k + 1) = i + 1 + k by omega]
      exact forR_map f P B R k (i + 1) s1 h1 fun j s hj hk => hs j s (by omega) (by omega)
    · rw [e1]; exact .inl ⟨s1, rfl, .inr h1⟩
    · rw [e1]; exact .inr ⟨r, rfl, h1⟩

theorem forR_list {α σ ρ : Type} (f : Int → σ → Option (Br σ ρ)) (l : List α) (P : List α → σ → Prop) (B : σ → Prop) (R : ρ → Prop) (s : σ) (h0 : P [] s)
    (hs : ∀ i x s, l[i]? = some x → P (l.take i) s → (∃ s', f (i : Int) s = some (.next s') ∧ P (l.take i ++ [x]) s') ∨ (∃ s', f (i : Int) s = some (.brk s') ∧ B s') ∨ ∃ r, f (i : Int) s = some (.ret r) ∧ R r) :
    (∃ s', forR f (irange 0 (l.length : Int)) s = some (.done s') ∧ (P l s' ∨ B s')) ∨ ∃ r, forR f (irange 0 (l.length : Int)) s = some (.ret r) ∧ R r := by
  have := forR_map f (fun i s => P (l.take i) s) B R l.length 0 s (by simpa using h0) (fun j s _ hj h => by
    have hj' : j < l.length := by omega
    rcases hs j l[j] s (List.getElem?_eq_getElem hj') h with ⟨s', e, h'⟩ | h | h
    · exact .inl ⟨s', e, by rwa [List.take_add_one, List.getElem?_eq_getElem hj']⟩
    · exact .inr (.inl h)
    · exact .inr (.inr h))
  simpa using this

end Go.AM
