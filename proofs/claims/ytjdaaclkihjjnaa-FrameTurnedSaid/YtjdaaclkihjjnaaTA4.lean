import Derived.Test.YtjdaaclkihjjnaaTA3
/-
  Plain facts: how frames are decoded.
-/
set_option linter.unusedVariables false
set_option linter.unusedSimpArgs false
namespace Go.AM
open Go

def fr0 : api_Frame := ⟨⟨0, 0, 0, 0, 0, 0, 0, 0⟩, false, 0, 0⟩

theorem dec_len {s : ByteArray} (h1 : s.size ≠ 16) (h2 : s.size ≠ 26) : frame_Decode s = some (fr0, 30) ∧ ref03_Decode s = some (fr0, false) := by
  have e1 : ((s.size : Int) == 16) = false := by simp; omega
  have e2 : ((s.size : Int) == 26) = false := by simp; omega
  constructor
  · simp only [frame_Decode, e1, e2, Bool.false_eq_true, if_false, Option.bind_some]; rfl
  · simp only [ref03_Decode, bne, e1, e2]; rfl

def pow12 (b0 b1 b2 b3 b4 b5 b6 b7 b8 b9 b10 b11 : Int) : A8 Int := ⟨0, 0, b0 * 256 + b1, b2 * 256 + b3, b4 * 256 + b5, b6 * 256 + b7, b8 * 256 + b9, b10 * 256 + b11⟩

theorem b1_step {i a b : Int} {f : api_Frame} {l : List Int} {p q : A8 Int} {x : Int} (h : Byte (a :: b :: l)) (hp : f.P = p) (hg : p.get i = some x) (hq : p.put i (a * 256 + b) = some q) : frame_Decode_b1 i (f, ⟨strOfB (a :: b :: l)⟩) = some (⟨q, f.Tagged, f.Tag, f.Digest⟩, ⟨strOfB l⟩) := by
  subst hp
  simp only [frame_Decode_b1, rd_two h, Option.bind_some, hg, hq]

theorem b2_step {i a b : Int} {f : api_Frame} {l : List Int} (h : Byte (a :: b :: l)) (hd : 0 ≤ f.Digest ∧ f.Digest < 281474976710656) : frame_Decode_b2 i (f, ⟨strOfB (a :: b :: l)⟩) = some (⟨f.P, f.Tagged, f.Tag, f.Digest * 65536 + (a * 256 + b)⟩, ⟨strOfB l⟩) := by
  have h1 := h a (by simp)
  have h2 := h b (by simp)
  simp only [frame_Decode_b2, rd_two h, Option.bind_some]
  rw [or64 hd (by omega)]

theorem Byte.tail {a : Int} {l : List Int} (h : Byte (a :: l)) : Byte l := fun b hb => h b (by simp [hb])

theorem dec16 {x0 x1 b0 b1 b2 b3 b4 b5 b6 b7 b8 b9 b10 b11 c0 c1 : Int} (h : Byte [x0, x1, b0, b1, b2, b3, b4, b5, b6, b7, b8, b9, b10, b11, c0, c1]) :
    frame_Decode (strOfB [x0, x1, b0, b1, b2, b3, b4, b5, b6, b7, b8, b9, b10, b11, c0, c1]) = some (if x0 = 78 ∧ x1 = 0 ∧ c0 * 256 + c1 = wsum 0 [x0, x1, b0, b1, b2, b3, b4, b5, b6, b7, b8, b9, b10, b11] % 65521 then (⟨pow12 b0 b1 b2 b3 b4 b5 b6 b7 b8 b9 b10 b11, false, 0, 0⟩, 0) else (fr0, 30)) := by
  have hs : (strOfB [x0, x1, b0, b1, b2, b3, b4, b5, b6, b7, b8, b9, b10, b11, c0, c1]).size = 16 := by rw [strOfB_size]; rfl
  have hb : Byte [x0, x1, b0, b1, b2, b3, b4, b5, b6, b7, b8, b9, b10, b11] := fun b hb => h b (by simp at hb ⊢; rcases hb with rfl | rfl | rfl | rfl | rfl | rfl | rfl | rfl | rfl | rfl | rfl | rfl | rfl | rfl <;> simp)
  have hc : Byte [c0, c1] := fun b hb => h b (by simp at hb ⊢; rcases hb with rfl | rfl <;> simp)
  unfold frame_Decode
  rw [hs]
  simp only [show (((16 : Nat) : Int) == 16) = true from rfl, if_true, Option.bind_some]
  rw [w_i64 (by decide) (by decide)]
  rw [cutb (x := 0) (y := ((16 : Nat) : Int) - 2) (a := 0) (b := 14) rfl rfl (by decide) (by simp), cutb (x := ((16 : Nat) : Int) - 2) (y := ((16 : Nat) : Int)) (a := 14) (b := 16) rfl rfl (by decide) (by simp)]
  simp only [Option.bind_some]
  rw [batb h (x := 0) (i := 0) rfl rfl, batb h (x := 1) (i := 1) rfl rfl]
  simp only [Option.bind_some]
  rw [show ((List.drop 14 [x0, x1, b0, b1, b2, b3, b4, b5, b6, b7, b8, b9, b10, b11, c0, c1]).take (16 - 14)) = [c0, c1] from rfl, show ((List.drop 0 [x0, x1, b0, b1, b2, b3, b4, b5, b6, b7, b8, b9, b10, b11, c0, c1]).take (14 - 0)) = [x0, x1, b0, b1, b2, b3, b4, b5, b6, b7, b8, b9, b10, b11] from rfl]
  rw [rd_two hc]
  simp only [Option.bind_some]
  rw [gs2b_strOfB hb (by simp)]
  simp only [Option.bind_some]
  rw [check_f hb (by simp)]
  simp only [Option.bind_some]
  by_cases k0 : x0 = 78
  · by_cases k1 : x1 = 0
    · by_cases k2 : c0 * 256 + c1 = wsum 0 [x0, x1, b0, b1, b2, b3, b4, b5, b6, b7, b8, b9, b10, b11] % 65521
      · refine Eq.trans ?_ (congrArg some (if_pos ⟨k0, k1, k2⟩)).symm
        have g0 : (x0 != 78) = false := by simp [k0]
        have g1 : (x1 != 0) = false := by simp [k1]
        have g2 : (c0 * 256 + c1 != wsum 0 [x0, x1, b0, b1, b2, b3, b4, b5, b6, b7, b8, b9, b10, b11] % 65521) = false := by rw [← k2]; simp
        simp only [g0, g1, g2, Bool.false_eq_true, if_false, Option.bind_some]
        rw [show (((strOfB [x0, x1, b0, b1, b2, b3, b4, b5, b6, b7, b8, b9, b10, b11]).size : Nat) : Int) = ((14 : Nat) : Int) by rw [strOfB_size]; rfl, cutb (x := 2) (a := 2) (b := 14) rfl rfl (by decide) (by simp)]
        simp only [Option.bind_some]
        rw [show ((List.drop 2 [x0, x1, b0, b1, b2, b3, b4, b5, b6, b7, b8, b9, b10, b11]).take (14 - 2)) = [b0, b1, b2, b3, b4, b5, b6, b7, b8, b9, b10, b11] from rfl]
        have ht := hb.tail.tail
        rw [show irange 2 8 = [2, 3, 4, 5, 6, 7] from rfl]
        simp only [forO]
        rw [b1_step ht rfl (A8.get2 _) (A8.put2 _ _)]; simp only [Option.bind_some]
        replace ht := ht.tail.tail
        rw [b1_step ht rfl (A8.get3 _) (A8.put3 _ _)]; simp only [Option.bind_some]
        replace ht := ht.tail.tail
        rw [b1_step ht rfl (A8.get4 _) (A8.put4 _ _)]; simp only [Option.bind_some]
        replace ht := ht.tail.tail
        rw [b1_step ht rfl (A8.get5 _) (A8.put5 _ _)]; simp only [Option.bind_some]
        replace ht := ht.tail.tail
        rw [b1_step ht rfl (A8.get6 _) (A8.put6 _ _)]; simp only [Option.bind_some]
        replace ht := ht.tail.tail
        rw [b1_step ht rfl (A8.get7 _) (A8.put7 _ _)]; simp only [Option.bind_some]
        rfl
      · refine Eq.trans ?_ (congrArg some (if_neg (fun k => k2 k.2.2))).symm
        have g0 : (x0 != 78) = false := by simp [k0]
        have g1 : (x1 != 0) = false := by simp [k1]
        have g2 : (c0 * 256 + c1 != wsum 0 [x0, x1, b0, b1, b2, b3, b4, b5, b6, b7, b8, b9, b10, b11] % 65521) = true := by simpa using k2
        simp only [g0, g1, g2, Bool.false_eq_true, if_false, if_true, Option.bind_some]
        rfl
    · refine Eq.trans ?_ (congrArg some (if_neg (fun k => k1 k.2.1))).symm
      have g0 : (x0 != 78) = false := by simp [k0]
      have g1 : (x1 != 0) = true := by simpa using k1
      simp only [g0, g1, Bool.false_eq_true, if_false, if_true, Option.bind_some]
      rfl
  · refine Eq.trans ?_ (congrArg some (if_neg (fun k => k0 k.1))).symm
    have g0 : (x0 != 78) = true := by simpa using k0
    simp only [g0, if_true, Option.bind_some]
    rfl

theorem dec26 {x0 x1 b0 b1 b2 b3 b4 b5 b6 b7 b8 b9 b10 b11 m0 m1 m2 m3 m4 m5 m6 m7 m8 m9 c0 c1 : Int} (h : Byte [x0, x1, b0, b1, b2, b3, b4, b5, b6, b7, b8, b9, b10, b11, m0, m1, m2, m3, m4, m5, m6, m7, m8, m9, c0, c1]) :
    frame_Decode (strOfB [x0, x1, b0, b1, b2, b3, b4, b5, b6, b7, b8, b9, b10, b11, m0, m1, m2, m3, m4, m5, m6, m7, m8, m9, c0, c1]) = some (if x0 = 78 ∧ x1 = 1 ∧ c0 * 256 + c1 = wsum 0 [x0, x1, b0, b1, b2, b3, b4, b5, b6, b7, b8, b9, b10, b11, m0, m1, m2, m3, m4, m5, m6, m7, m8, m9] % 65521 then (⟨pow12 b0 b1 b2 b3 b4 b5 b6 b7 b8 b9 b10 b11, true, m0 * 256 + m1, (((0 * 65536 + (m2 * 256 + m3)) * 65536 + (m4 * 256 + m5)) * 65536 + (m6 * 256 + m7)) * 65536 + (m8 * 256 + m9)⟩, 0) else (fr0, 30)) := by
  have hs : (strOfB [x0, x1, b0, b1, b2, b3, b4, b5, b6, b7, b8, b9, b10, b11, m0, m1, m2, m3, m4, m5, m6, m7, m8, m9, c0, c1]).size = 26 := by rw [strOfB_size]; rfl
  have hb : Byte [x0, x1, b0, b1, b2, b3, b4, b5, b6, b7, b8, b9, b10, b11, m0, m1, m2, m3, m4, m5, m6, m7, m8, m9] := fun b hb => h b (by simp at hb ⊢; rcases hb with rfl | rfl | rfl | rfl | rfl | rfl | rfl | rfl | rfl | rfl | rfl | rfl | rfl | rfl | rfl | rfl | rfl | rfl | rfl | rfl | rfl | rfl | rfl | rfl <;> simp)
  have hc : Byte [c0, c1] := fun b hb => h b (by simp at hb ⊢; rcases hb with rfl | rfl <;> simp)
  unfold frame_Decode
  rw [hs]
  simp only [show (((26 : Nat) : Int) == 16) = false from rfl, show (((26 : Nat) : Int) == 26) = true from rfl, Bool.false_eq_true, if_false, if_true, Option.bind_some]
  rw [w_i64 (by decide) (by decide)]
  rw [cutb (x := 0) (y := ((26 : Nat) : Int) - 2) (a := 0) (b := 24) rfl rfl (by decide) (by simp), cutb (x := ((26 : Nat) : Int) - 2) (y := ((26 : Nat) : Int)) (a := 24) (b := 26) rfl rfl (by decide) (by simp)]
  simp only [Option.bind_some]
  rw [batb h (x := 0) (i := 0) rfl rfl, batb h (x := 1) (i := 1) rfl rfl]
  simp only [Option.bind_some]
  rw [show ((List.drop 24 [x0, x1, b0, b1, b2, b3, b4, b5, b6, b7, b8, b9, b10, b11, m0, m1, m2, m3, m4, m5, m6, m7, m8, m9, c0, c1]).take (26 - 24)) = [c0, c1] from rfl, show ((List.drop 0 [x0, x1, b0, b1, b2, b3, b4, b5, b6, b7, b8, b9, b10, b11, m0, m1, m2, m3, m4, m5, m6, m7, m8, m9, c0, c1]).take (24 - 0)) = [x0, x1, b0, b1, b2, b3, b4, b5, b6, b7, b8, b9, b10, b11, m0, m1, m2, m3, m4, m5, m6, m7, m8, m9] from rfl]
  rw [rd_two hc]
  simp only [Option.bind_some]
  rw [gs2b_strOfB hb (by simp)]
  simp only [Option.bind_some]
  rw [check_f hb (by simp)]
  simp only [Option.bind_some]
  by_cases k0 : x0 = 78
  · by_cases k1 : x1 = 1
    · by_cases k2 : c0 * 256 + c1 = wsum 0 [x0, x1, b0, b1, b2, b3, b4, b5, b6, b7, b8, b9, b10, b11, m0, m1, m2, m3, m4, m5, m6, m7, m8, m9] % 65521
      · refine Eq.trans ?_ (congrArg some (if_pos ⟨k0, k1, k2⟩)).symm
        have g0 : (x0 != 78) = false := by simp [k0]
        have g1 : (x1 != 1) = false := by simp [k1]
        have g2 : (c0 * 256 + c1 != wsum 0 [x0, x1, b0, b1, b2, b3, b4, b5, b6, b7, b8, b9, b10, b11, m0, m1, m2, m3, m4, m5, m6, m7, m8, m9] % 65521) = false := by rw [← k2]; simp
        simp only [g0, g1, g2, Bool.false_eq_true, if_false, Option.bind_some]
        rw [show (((strOfB [x0, x1, b0, b1, b2, b3, b4, b5, b6, b7, b8, b9, b10, b11, m0, m1, m2, m3, m4, m5, m6, m7, m8, m9]).size : Nat) : Int) = ((24 : Nat) : Int) by rw [strOfB_size]; rfl, cutb (x := 2) (a := 2) (b := 24) rfl rfl (by decide) (by simp)]
        simp only [Option.bind_some]
        rw [show ((List.drop 2 [x0, x1, b0, b1, b2, b3, b4, b5, b6, b7, b8, b9, b10, b11, m0, m1, m2, m3, m4, m5, m6, m7, m8, m9]).take (24 - 2)) = [b0, b1, b2, b3, b4, b5, b6, b7, b8, b9, b10, b11, m0, m1, m2, m3, m4, m5, m6, m7, m8, m9] from rfl]
        have ht := hb.tail.tail
        have q2 := hb m2 (by simp)
        have q3 := hb m3 (by simp)
        have q4 := hb m4 (by simp)
        have q5 := hb m5 (by simp)
        have q6 := hb m6 (by simp)
        have q7 := hb m7 (by simp)
        rw [show irange 2 8 = [2, 3, 4, 5, 6, 7] from rfl, show irange 0 4 = [0, 1, 2, 3] from rfl]
        simp only [forO]
        rw [b1_step ht rfl (A8.get2 _) (A8.put2 _ _)]; simp only [Option.bind_some]
        replace ht := ht.tail.tail
        rw [b1_step ht rfl (A8.get3 _) (A8.put3 _ _)]; simp only [Option.bind_some]
        replace ht := ht.tail.tail
        rw [b1_step ht rfl (A8.get4 _) (A8.put4 _ _)]; simp only [Option.bind_some]
        replace ht := ht.tail.tail
        rw [b1_step ht rfl (A8.get5 _) (A8.put5 _ _)]; simp only [Option.bind_some]
        replace ht := ht.tail.tail
        rw [b1_step ht rfl (A8.get6 _) (A8.put6 _ _)]; simp only [Option.bind_some]
        replace ht := ht.tail.tail
        rw [b1_step ht rfl (A8.get7 _) (A8.put7 _ _)]; simp only [Option.bind_some]
        replace ht := ht.tail.tail
        rw [show ((1 : Int) == 1) = true from rfl]
        simp only [if_true]
        rw [rd_two ht]; simp only [Option.bind_some]
        replace ht := ht.tail.tail
        rw [b2_step ht (by simp)]; simp only [Option.bind_some]
        replace ht := ht.tail.tail
        rw [b2_step ht (by simp only []; omega)]; simp only [Option.bind_some]
        replace ht := ht.tail.tail
        rw [b2_step ht (by simp only []; omega)]; simp only [Option.bind_some]
        replace ht := ht.tail.tail
        rw [b2_step ht (by simp only []; omega)]; simp only [Option.bind_some]
        rfl
      · refine Eq.trans ?_ (congrArg some (if_neg (fun k => k2 k.2.2))).symm
        have g0 : (x0 != 78) = false := by simp [k0]
        have g1 : (x1 != 1) = false := by simp [k1]
        have g2 : (c0 * 256 + c1 != wsum 0 [x0, x1, b0, b1, b2, b3, b4, b5, b6, b7, b8, b9, b10, b11, m0, m1, m2, m3, m4, m5, m6, m7, m8, m9] % 65521) = true := by simpa using k2
        simp only [g0, g1, g2, Bool.false_eq_true, if_false, if_true, Option.bind_some]
        rfl
    · refine Eq.trans ?_ (congrArg some (if_neg (fun k => k1 k.2.1))).symm
      have g0 : (x0 != 78) = false := by simp [k0]
      have g1 : (x1 != 1) = true := by simpa using k1
      simp only [g0, g1, Bool.false_eq_true, if_false, if_true, Option.bind_some]
      rfl
  · refine Eq.trans ?_ (congrArg some (if_neg (fun k => k0 k.1))).symm
    have g0 : (x0 != 78) = true := by simpa using k0
    simp only [g0, if_true, Option.bind_some]
    rfl

end Go.AM
