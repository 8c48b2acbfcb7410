import Derived.Test.YtjdaaclkihjjnaaTA7
/-
  Plain law: FrameTurned.
-/
set_option linter.unusedVariables false
set_option linter.unusedSimpArgs false
namespace Go.AM
open Go

def good (y : Int) (n : Nat) (l : List Int) : Prop := l.getD 0 0 = 78 ∧ l.getD 1 0 = y ∧ l.getD (n - 2) 0 * 256 + l.getD (n - 1) 0 = wsum 0 (l.take (n - 2)) % 65521

theorem not16 {l : List Int} (hb : Byte l) (hl : l.length = 16) (h : ¬ good 0 16 l) : frame_Decode (strOfB l) = some (fr0, 30) := by
  match l, hl with
  | [x0, x1, b0, b1, b2, b3, b4, b5, b6, b7, b8, b9, b10, b11, c0, c1], _ => rw [dec16 hb]; exact congrArg some (if_neg h)

theorem not26 {l : List Int} (hb : Byte l) (hl : l.length = 26) (h : ¬ good 1 26 l) : frame_Decode (strOfB l) = some (fr0, 30) := by
  match l, hl with
  | [x0, x1, b0, b1, b2, b3, b4, b5, b6, b7, b8, b9, b10, b11, m0, m1, m2, m3, m4, m5, m6, m7, m8, m9, c0, c1], _ => rw [dec26 hb]; exact congrArg some (if_neg h)

theorem wsum_set : ∀ (l : List Int) (i q : Nat) (v : Int) (h : q < l.length), wsum i (l.set q v) = wsum i l + ((i : Int) + q + 1) * (v - l[q])
  | b :: l, i, 0, v, h => by
    simp only [List.set_cons_zero, wsum, List.getElem_cons_zero]
    rw [Int.mul_sub]
    simp only [Int.natCast_zero, Int.add_zero]
    omega
  | b :: l, i, q + 1, v, h => by
    simp only [List.set_cons_succ, wsum, List.getElem_cons_succ]
    rw [wsum_set l (i + 1) q v (by simpa using h)]
    have : (((i + 1 : Nat) : Int) + q + 1) = ((i : Int) + ((q + 1 : Nat) : Int) + 1) := by push_cast; omega
    rw [this]
    omega

theorem set_bad {y : Int} {n : Nat} {l : List Int} (hb : Byte l) (hl : l.length = n) (hn : 4 ≤ n) (hn2 : n ≤ 100) (hg : good y n l) {q : Nat} (hq : q < n) {v : Int} (hv : 0 ≤ v ∧ v < 256) (hne : v ≠ l.getD q 0) : ¬ good y n (l.set q v) := by
  rintro ⟨g0, g1, g2⟩
  obtain ⟨k0, k1, k2⟩ := hg
  have get : ∀ j, j ≠ q → (l.set q v).getD j 0 = l.getD j 0 := by
    intro j hj
    rw [List.getD_eq_getElem?_getD, List.getD_eq_getElem?_getD, List.getElem?_set_ne (fun h => hj h.symm)]
  have self : (l.set q v).getD q 0 = v := by
    rw [List.getD_eq_getElem?_getD, List.getElem?_set_self (by omega)]; rfl
  by_cases h0 : q = 0
  · subst h0; rw [self] at g0; exact hne (g0.trans k0.symm)
  by_cases h1 : q = 1
  · subst h1; rw [self] at g1; exact hne (g1.trans k1.symm)
  rw [List.take_set] at g2
  by_cases h2 : q < n - 2
  · rw [get _ (by omega), get _ (by omega), wsum_set _ _ _ _ (by simp; omega)] at g2
    have ex : (l.take (n - 2))[q]'(by simp; omega) = l.getD q 0 := by
      rw [List.getElem_take, List.getD_eq_getElem?_getD, List.getElem?_eq_getElem (by omega)]; rfl
    rw [ex] at g2
    have hx : 0 ≤ l.getD q 0 ∧ l.getD q 0 < 256 := by
      rw [← ex, List.getElem_take]
      exact hb _ (List.getElem_mem _)
    generalize l.getD q 0 = x at *
    have e : (((0 : Nat) : Int) + (q : Int) + 1) = (q : Int) + 1 := by omega
    rw [e] at g2
    have z : ((q : Int) + 1) * (v - x) ≠ 0 := by
      intro z
      rcases Int.mul_eq_zero.1 z with z | z <;> omega
    have b1 : ((q : Int) + 1) * (v - x) ≤ 100 * 255 ∧ -(100 * 255) ≤ ((q : Int) + 1) * (v - x) := by
      by_cases s : 0 ≤ v - x
      · have := Int.mul_le_mul_of_nonneg_right (show (q : Int) + 1 ≤ 100 by omega) s
        have := Int.mul_nonneg (show 0 ≤ (q : Int) + 1 by omega) s
        omega
      · have a := Int.mul_le_mul_of_nonneg_right (show (q : Int) + 1 ≤ 100 by omega) (show 0 ≤ x - v by omega)
        have b := Int.mul_nonneg (show 0 ≤ (q : Int) + 1 by omega) (show 0 ≤ x - v by omega)
        have c : ((q : Int) + 1) * (x - v) = -(((q : Int) + 1) * (v - x)) := by rw [← Int.mul_neg]; congr 1; omega
        omega
    generalize ((q : Int) + 1) * (v - x) = m at *
    omega
  · rw [List.set_eq_of_length_le (l := l.take (n - 2)) (by rw [List.length_take]; omega)] at g2
    by_cases h3 : q = n - 2
    · subst h3
      rw [self, get _ (by omega)] at g2
      omega
    · have h4 : q = n - 1 := by omega
      subst h4
      rw [self, get _ (by omega)] at g2
      omega

theorem xor_ne {x a : Int} (hx : 0 ≤ x ∧ x < 256) (ha : 0 ≤ a ∧ a < 256) (h0 : a ≠ 0) : (0 ≤ xorI .u8 x a ∧ xorI .u8 x a < 256) ∧ xorI .u8 x a ≠ x := by
  have hbits : IntKind.u8.bits = 8 := rfl
  unfold xorI
  rw [hbits, w_u8]
  have lt := (BitVec.ofInt 8 x ^^^ BitVec.ofInt 8 a).isLt
  refine ⟨by omega, fun e => h0 ?_⟩
  have e1 : ((BitVec.ofInt 8 x ^^^ BitVec.ofInt 8 a).toNat : Int) = x := by omega
  have e2 : BitVec.ofInt 8 x ^^^ BitVec.ofInt 8 a = BitVec.ofInt 8 x := by
    conv => rhs; rw [← e1]
    rw [BitVec.ofInt_natCast, BitVec.ofNat_toNat, BitVec.setWidth_eq]
  have e3 : BitVec.ofInt 8 a = 0#8 := by
    have := congrArg (fun z => BitVec.ofInt 8 x ^^^ z) e2
    simpa [← BitVec.xor_assoc] using this
  have e4 := congrArg BitVec.toNat e3
  rw [BitVec.toNat_ofInt] at e4
  simp at e4
  omega

theorem encB_len (f : api_Frame) : (encB f.P f.Tagged f.Tag f.Digest).length = if f.Tagged then 26 else 16 := by
  cases ht : f.Tagged <;> simp [encB, bodyB, pairs]

theorem encB_good (f : api_Frame) : good (if f.Tagged then 1 else 0) (if f.Tagged then 26 else 16) (encB f.P f.Tagged f.Tag f.Digest) := by
  obtain ⟨p, tg, tag, dg⟩ := f
  cases tg
  · refine ⟨rfl, rfl, ?_⟩
    exact wi
  · refine ⟨rfl, rfl, ?_⟩
    exact wi

theorem dec_bad {l : List Int} (hb : Byte l) (h16 : l.length = 16 → ¬ good 0 16 l) (h26 : l.length = 26 → ¬ good 1 26 l) : frame_Decode (strOfB l) = some (fr0, 30) := by
  by_cases h1 : l.length = 16
  · exact not16 hb h1 (h16 h1)
  by_cases h2 : l.length = 26
  · exact not26 hb h2 (h26 h2)
  exact (dec_len (by rw [strOfB_size]; exact h1) (by rw [strOfB_size]; exact h2)).1

theorem law_turned {f : api_Frame} (h : FrOk f) {a1 a2 : Int} (r1 : 0 ≤ a1 ∧ a1 < 256) (r2 : 0 ≤ a2 ∧ a2 < 256) : law03_FrameTurned f a1 a2 = some true := by
  unfold law03_FrameTurned
  rw [awake03]; simp only [Option.bind_some]
  rw [if_neg (by decide), encode_f h]
  simp only [Option.bind_some]
  by_cases h0 : a2 = 0
  · rw [if_pos (by simpa using h0)]
  rw [if_neg (by simpa using h0)]
  have hby := encB_byte h
  have hlen := encB_len f
  have hg := encB_good f
  generalize encB f.P f.Tagged f.Tag f.Digest = L at hby hlen hg
  obtain ⟨n, y, hn, hL, hgood, hny⟩ : ∃ n y, (n = 16 ∧ y = 0 ∨ n = 26 ∧ y = 1) ∧ L.length = n ∧ good y n L ∧ True := by
    cases ht : f.Tagged
    · rw [ht] at hlen hg; exact ⟨16, 0, .inl ⟨rfl, rfl⟩, hlen, hg, trivial⟩
    · rw [ht] at hlen hg; exact ⟨26, 1, .inr ⟨rfl, rfl⟩, hlen, hg, trivial⟩
  have hn0 : 0 < n := by rcases hn with ⟨h, _⟩ | ⟨h, _⟩ <;> omega
  have hn1 : n ≤ 26 := by rcases hn with ⟨h, _⟩ | ⟨h, _⟩ <;> omega
  have hn4 : 4 ≤ n := by rcases hn with ⟨h, _⟩ | ⟨h, _⟩ <;> omega
  rw [gs2b_strOfB hby (by omega)]
  simp only [Option.bind_some]
  rw [w_i64 (by omega) (by omega), hL, strOfB_size, hL]
  have hq : remI a1 (n : Int) = some ((a1.toNat % n : Nat) : Int) := by
    unfold remI
    rw [if_neg (by omega), Int.tmod_eq_emod_of_nonneg r1.1]
    congr 1
    have : a1 = (a1.toNat : Int) := by omega
    conv => lhs; rw [this]
    rfl
  have hqlt : a1.toNat % n < n := Nat.mod_lt _ hn0
  rw [hq]
  generalize a1.toNat % n = q at hqlt
  simp only [Option.bind_some]
  have hgq : gat L (q : Int) = some (L.getD q 0) := by
    simp [gat, List.getD_eq_getElem?_getD, hL, hqlt]
  have hx : 0 ≤ L.getD q 0 ∧ L.getD q 0 < 256 := by
    have : L.getD q 0 = L[q]'(by omega) := by simp [List.getD_eq_getElem?_getD, hL, hqlt]
    rw [this]; exact hby _ (List.getElem_mem _)
  rw [hgq]
  simp only [Option.bind_some]
  obtain ⟨hv, hne⟩ := xor_ne hx r2 h0
  have hput : gput L (q : Int) (xorI .u8 (L.getD q 0) a2) = some (L.set q (xorI .u8 (L.getD q 0) a2)) := by
    simp [gput, hL, hqlt]
  rw [hput]
  simp only [Option.bind_some]
  generalize xorI .u8 (L.getD q 0) a2 = v at hv hne
  have hset : Byte (L.set q v) := by
    intro b hb
    rcases List.mem_or_eq_of_mem_set hb with hb | rfl
    · exact hby b hb
    · exact hv
  have d1 : frame_Decode (strOfB (L.set q v)) = some (fr0, 30) := by
    have hbad := set_bad hby hL hn4 (by omega) hgood hqlt hv hne
    refine dec_bad hset (fun e => ?_) (fun e => ?_)
    · rw [List.length_set] at e
      rcases hn with ⟨rfl, rfl⟩ | ⟨rfl, rfl⟩
      · exact hbad
      · omega
    · rw [List.length_set] at e
      rcases hn with ⟨rfl, rfl⟩ | ⟨rfl, rfl⟩
      · omega
      · exact hbad
  have hcut : scut (strOfB L) 0 (q : Int) = some (strOfB (L.take q)) := by
    have := cutb (l := L) (x := 0) (y := q) (a := 0) (b := q) rfl rfl (by omega) (by omega)
    simpa using this
  have htk : Byte (L.take q) := fun b hb => hby b (List.mem_of_mem_take hb)
  have d2 : frame_Decode (strOfB (L.take q)) = some (fr0, 30) := by
    refine dec_bad htk (fun e => ?_) (fun e => ?_)
    · rw [List.length_take] at e
      rintro ⟨_, g1, _⟩
      rcases hn with ⟨rfl, rfl⟩ | ⟨rfl, rfl⟩
      · omega
      · have := hgood.2.1
        have e2 : (L.take q).getD 1 0 = L.getD 1 0 := by
          rw [List.getD_eq_getElem?_getD, List.getD_eq_getElem?_getD, List.getElem?_take_of_lt (by omega)]
        omega
    · rw [List.length_take] at e
      omega
  have hcat : scat (strOfB L) (strOfB [a2]) = some (strOfB L ++ strOfB [a2]) := by
    unfold scat
    rw [if_pos (by rw [strOfB_size, strOfB_size]; simp; omega)]
  have d3 : frame_Decode (strOfB L ++ strOfB [a2]) = some (fr0, 30) := by
    have e : (strOfB L ++ strOfB [a2]).size = n + 1 := by rw [ByteArray.size_append, strOfB_size, strOfB_size, hL]; rfl
    refine (dec_len ?_ ?_).1
    · rw [e]; rcases hn with ⟨rfl, _⟩ | ⟨rfl, _⟩ <;> decide
    · rw [e]; rcases hn with ⟨rfl, _⟩ | ⟨rfl, _⟩ <;> decide
  rw [d1]
  simp only [Option.bind_some, hcut, d2, hcat, d3]
  rfl

end Go.AM
