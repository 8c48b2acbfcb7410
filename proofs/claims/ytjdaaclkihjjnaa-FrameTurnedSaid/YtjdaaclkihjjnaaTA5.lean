import Derived.Test.YtjdaaclkihjjnaaTA4
/-
  Plain facts: how the document decodes frames.
-/
set_option linter.unusedVariables false
set_option linter.unusedSimpArgs false
namespace Go.AM
open Go

theorem encB_byte {f : api_Frame} (h : FrOk f) : Byte (encB f.P f.Tagged f.Tag f.Digest) := by
  have hb := bodyB_byte h
  have := wsum_bound _ 0 hb
  intro b hm
  unfold encB at hm
  rcases List.mem_append.1 hm with hm | hm
  · exact hb b hm
  · simp only [pairs, List.flatMap_cons, List.flatMap_nil, List.append_nil, List.mem_cons, List.not_mem_nil, or_false] at hm
    rcases hm with rfl | rfl <;> omega

theorem r1_step {l : List Int} (h : Byte l) {i a b x : Int} {k : Nat} {f : api_Frame} {q : A8 Int} (hk : IntKind.i64.wrap (IntKind.i64.wrap (2 * i) - 2) = k) (hk2 : k ≤ 1000) (ha : l[k]? = some a) (hb : l[k + 1]? = some b) (hg : f.P.get i = some x) (hq : f.P.put i (a * 256 + b) = some q) : ref03_Decode_b1 (strOfB l) i f = some ⟨q, f.Tagged, f.Tag, f.Digest⟩ := by
  simp only [ref03_Decode_b1, num_r h hk hk2 ha hb, Option.bind_some, hg, hq]

theorem r2_step {l : List Int} (h : Byte l) {i a : Int} {k : Nat} {f : api_Frame} (hk : i = k) (ha : l[k]? = some a) (hd : 0 ≤ f.Digest ∧ f.Digest < 72057594037927936) : ref03_Decode_b2 (strOfB l) i f = some ⟨f.P, f.Tagged, f.Tag, f.Digest * 256 + a⟩ := by
  have h1 := h a (List.mem_of_getElem? ha)
  simp only [ref03_Decode_b2, batb h hk ha, Option.bind_some, w_u64]
  congr 2
  omega

theorem ref16 {x0 x1 b0 b1 b2 b3 b4 b5 b6 b7 b8 b9 b10 b11 c0 c1 : Int} (h : Byte [x0, x1, b0, b1, b2, b3, b4, b5, b6, b7, b8, b9, b10, b11, c0, c1]) :
    ref03_Decode (strOfB [x0, x1, b0, b1, b2, b3, b4, b5, b6, b7, b8, b9, b10, b11, c0, c1]) = some (if x0 = 78 ∧ x1 = 0 ∧ c0 * 256 + c1 = wsum 0 [x0, x1, b0, b1, b2, b3, b4, b5, b6, b7, b8, b9, b10, b11] % 65521 then ((⟨pow12 b0 b1 b2 b3 b4 b5 b6 b7 b8 b9 b10 b11, false, 0, 0⟩ : api_Frame), true) else (fr0, false)) := by
  have hs : (strOfB [x0, x1, b0, b1, b2, b3, b4, b5, b6, b7, b8, b9, b10, b11, c0, c1]).size = 16 := by rw [strOfB_size]; rfl
  have q_x0 := h x0 (by simp)
  have q_x1 := h x1 (by simp)
  have q_b0 := h b0 (by simp)
  have q_b1 := h b1 (by simp)
  have q_b2 := h b2 (by simp)
  have q_b3 := h b3 (by simp)
  have q_b4 := h b4 (by simp)
  have q_b5 := h b5 (by simp)
  have q_b6 := h b6 (by simp)
  have q_b7 := h b7 (by simp)
  have q_b8 := h b8 (by simp)
  have q_b9 := h b9 (by simp)
  have q_b10 := h b10 (by simp)
  have q_b11 := h b11 (by simp)
  have q_c0 := h c0 (by simp)
  have q_c1 := h c1 (by simp)
  have hb : Byte [x0, x1, b0, b1, b2, b3, b4, b5, b6, b7, b8, b9, b10, b11] := fun b hb => h b (by simp at hb ⊢; rcases hb with rfl | rfl | rfl | rfl | rfl | rfl | rfl | rfl | rfl | rfl | rfl | rfl | rfl | rfl <;> simp)
  have hw := wsum_bound _ 0 hb
  unfold ref03_Decode
  rw [hs]
  simp only [show (((16 : Nat) : Int) != 16 && ((16 : Nat) : Int) != 26) = false from rfl, show (((16 : Nat) : Int) == 26) = false from rfl, Bool.false_eq_true, if_false]
  rw [show irange 2 8 = [2, 3, 4, 5, 6, 7] from rfl]
  simp only [forO]
  rw [r1_step h (i := 2) (k := 2) (by decide) (by decide) rfl rfl (A8.get2 _) (A8.put2 _ _)]; simp only [Option.bind_some]
  rw [r1_step h (i := 3) (k := 4) (by decide) (by decide) rfl rfl (A8.get3 _) (A8.put3 _ _)]; simp only [Option.bind_some]
  rw [r1_step h (i := 4) (k := 6) (by decide) (by decide) rfl rfl (A8.get4 _) (A8.put4 _ _)]; simp only [Option.bind_some]
  rw [r1_step h (i := 5) (k := 8) (by decide) (by decide) rfl rfl (A8.get5 _) (A8.put5 _ _)]; simp only [Option.bind_some]
  rw [r1_step h (i := 6) (k := 10) (by decide) (by decide) rfl rfl (A8.get6 _) (A8.put6 _ _)]; simp only [Option.bind_some]
  rw [r1_step h (i := 7) (k := 12) (by decide) (by decide) rfl rfl (A8.get7 _) (A8.put7 _ _)]; simp only [Option.bind_some]
  simp only [Bool.false_eq_true, if_false, Option.bind_some]
  have hf : FrOk (⟨pow12 b0 b1 b2 b3 b4 b5 b6 b7 b8 b9 b10 b11, false, 0, 0⟩ : api_Frame) := by constructor <;> simp only [pow12] <;> omega
  have he : encB (pow12 b0 b1 b2 b3 b4 b5 b6 b7 b8 b9 b10 b11) false (0) 0 = [78, 0, b0, b1, b2, b3, b4, b5, b6, b7, b8, b9, b10, b11] ++ pairs [wsum 0 [78, 0, b0, b1, b2, b3, b4, b5, b6, b7, b8, b9, b10, b11] % 65521] := by
    have eb : bodyB (pow12 b0 b1 b2 b3 b4 b5 b6 b7 b8 b9 b10 b11) false (0) 0 = [78, 0, b0, b1, b2, b3, b4, b5, b6, b7, b8, b9, b10, b11] := by
      simp only [bodyB, pairs, pow12, if_true, Bool.false_eq_true, if_false, List.flatMap_cons, List.flatMap_nil, List.cons_append, List.nil_append, List.append_nil, List.cons.injEq, and_true, true_and]
      refine ⟨?_, ?_, ?_, ?_, ?_, ?_, ?_, ?_, ?_, ?_, ?_, ?_⟩ <;> omega
    unfold encB; rw [eb]
  have key := encode_r hf
  have hby : Byte (encB (pow12 b0 b1 b2 b3 b4 b5 b6 b7 b8 b9 b10 b11) false (0) 0) := encB_byte hf
  simp only [pow12] at key hby he ⊢
  rw [key]; simp only [Option.bind_some]
  rw [seqB_strOfB hby h, he]
  have hq : ([78, 0, b0, b1, b2, b3, b4, b5, b6, b7, b8, b9, b10, b11] ++ pairs [wsum 0 [78, 0, b0, b1, b2, b3, b4, b5, b6, b7, b8, b9, b10, b11] % 65521] = [x0, x1, b0, b1, b2, b3, b4, b5, b6, b7, b8, b9, b10, b11, c0, c1]) ↔ (x0 = 78 ∧ x1 = 0 ∧ c0 * 256 + c1 = wsum 0 [x0, x1, b0, b1, b2, b3, b4, b5, b6, b7, b8, b9, b10, b11] % 65521) := by
    simp only [pairs, List.flatMap_cons, List.flatMap_nil, List.cons_append, List.nil_append, List.append_nil, List.cons.injEq, and_true, true_and]
    constructor
    · rintro ⟨rfl, rfl, k1, k2⟩; exact ⟨rfl, rfl, by omega⟩
    · rintro ⟨rfl, rfl, k1⟩; exact ⟨rfl, rfl, by omega, by omega⟩
  by_cases k : x0 = 78 ∧ x1 = 0 ∧ c0 * 256 + c1 = wsum 0 [x0, x1, b0, b1, b2, b3, b4, b5, b6, b7, b8, b9, b10, b11] % 65521
  · rw [decide_eq_true (hq.2 k)]
    exact (congrArg some (if_pos k)).symm
  · rw [decide_eq_false (fun e => k (hq.1 e))]
    exact (congrArg some (if_neg k)).symm

theorem ref26 {x0 x1 b0 b1 b2 b3 b4 b5 b6 b7 b8 b9 b10 b11 m0 m1 m2 m3 m4 m5 m6 m7 m8 m9 c0 c1 : Int} (h : Byte [x0, x1, b0, b1, b2, b3, b4, b5, b6, b7, b8, b9, b10, b11, m0, m1, m2, m3, m4, m5, m6, m7, m8, m9, c0, c1]) :
    ref03_Decode (strOfB [x0, x1, b0, b1, b2, b3, b4, b5, b6, b7, b8, b9, b10, b11, m0, m1, m2, m3, m4, m5, m6, m7, m8, m9, c0, c1]) = some (if x0 = 78 ∧ x1 = 1 ∧ c0 * 256 + c1 = wsum 0 [x0, x1, b0, b1, b2, b3, b4, b5, b6, b7, b8, b9, b10, b11, m0, m1, m2, m3, m4, m5, m6, m7, m8, m9] % 65521 then ((⟨pow12 b0 b1 b2 b3 b4 b5 b6 b7 b8 b9 b10 b11, true, m0 * 256 + m1, ((((0 * 65536 + (m2 * 256 + m3)) * 65536 + (m4 * 256 + m5)) * 65536 + (m6 * 256 + m7)) * 65536 + (m8 * 256 + m9))⟩ : api_Frame), true) else (fr0, false)) := by
  have hs : (strOfB [x0, x1, b0, b1, b2, b3, b4, b5, b6, b7, b8, b9, b10, b11, m0, m1, m2, m3, m4, m5, m6, m7, m8, m9, c0, c1]).size = 26 := by rw [strOfB_size]; rfl
  have q_x0 := h x0 (by simp)
  have q_x1 := h x1 (by simp)
  have q_b0 := h b0 (by simp)
  have q_b1 := h b1 (by simp)
  have q_b2 := h b2 (by simp)
  have q_b3 := h b3 (by simp)
  have q_b4 := h b4 (by simp)
  have q_b5 := h b5 (by simp)
  have q_b6 := h b6 (by simp)
  have q_b7 := h b7 (by simp)
  have q_b8 := h b8 (by simp)
  have q_b9 := h b9 (by simp)
  have q_b10 := h b10 (by simp)
  have q_b11 := h b11 (by simp)
  have q_m0 := h m0 (by simp)
  have q_m1 := h m1 (by simp)
  have q_m2 := h m2 (by simp)
  have q_m3 := h m3 (by simp)
  have q_m4 := h m4 (by simp)
  have q_m5 := h m5 (by simp)
  have q_m6 := h m6 (by simp)
  have q_m7 := h m7 (by simp)
  have q_m8 := h m8 (by simp)
  have q_m9 := h m9 (by simp)
  have q_c0 := h c0 (by simp)
  have q_c1 := h c1 (by simp)
  have hb : Byte [x0, x1, b0, b1, b2, b3, b4, b5, b6, b7, b8, b9, b10, b11, m0, m1, m2, m3, m4, m5, m6, m7, m8, m9] := fun b hb => h b (by simp at hb ⊢; rcases hb with rfl | rfl | rfl | rfl | rfl | rfl | rfl | rfl | rfl | rfl | rfl | rfl | rfl | rfl | rfl | rfl | rfl | rfl | rfl | rfl | rfl | rfl | rfl | rfl <;> simp)
  have hw := wsum_bound _ 0 hb
  unfold ref03_Decode
  rw [hs]
  simp only [show (((26 : Nat) : Int) != 16 && ((26 : Nat) : Int) != 26) = false from rfl, show (((26 : Nat) : Int) == 26) = true from rfl, Bool.false_eq_true, if_false]
  rw [show irange 2 8 = [2, 3, 4, 5, 6, 7] from rfl]
  simp only [forO]
  rw [r1_step h (i := 2) (k := 2) (by decide) (by decide) rfl rfl (A8.get2 _) (A8.put2 _ _)]; simp only [Option.bind_some]
  rw [r1_step h (i := 3) (k := 4) (by decide) (by decide) rfl rfl (A8.get3 _) (A8.put3 _ _)]; simp only [Option.bind_some]
  rw [r1_step h (i := 4) (k := 6) (by decide) (by decide) rfl rfl (A8.get4 _) (A8.put4 _ _)]; simp only [Option.bind_some]
  rw [r1_step h (i := 5) (k := 8) (by decide) (by decide) rfl rfl (A8.get5 _) (A8.put5 _ _)]; simp only [Option.bind_some]
  rw [r1_step h (i := 6) (k := 10) (by decide) (by decide) rfl rfl (A8.get6 _) (A8.put6 _ _)]; simp only [Option.bind_some]
  rw [r1_step h (i := 7) (k := 12) (by decide) (by decide) rfl rfl (A8.get7 _) (A8.put7 _ _)]; simp only [Option.bind_some]
  simp only [if_true]
  rw [num_r h (x := 14) (i := 14) rfl (by decide) rfl rfl]; simp only [Option.bind_some]
  rw [show irange 16 24 = [16, 17, 18, 19, 20, 21, 22, 23] from rfl]
  simp only [forO]
  rw [r2_step h (i := 16) (k := 16) rfl rfl (by simp only []; omega)]; simp only [Option.bind_some]
  rw [r2_step h (i := 17) (k := 17) rfl rfl (by simp only []; omega)]; simp only [Option.bind_some]
  rw [r2_step h (i := 18) (k := 18) rfl rfl (by simp only []; omega)]; simp only [Option.bind_some]
  rw [r2_step h (i := 19) (k := 19) rfl rfl (by simp only []; omega)]; simp only [Option.bind_some]
  rw [r2_step h (i := 20) (k := 20) rfl rfl (by simp only []; omega)]; simp only [Option.bind_some]
  rw [r2_step h (i := 21) (k := 21) rfl rfl (by simp only []; omega)]; simp only [Option.bind_some]
  rw [r2_step h (i := 22) (k := 22) rfl rfl (by simp only []; omega)]; simp only [Option.bind_some]
  rw [r2_step h (i := 23) (k := 23) rfl rfl (by simp only []; omega)]; simp only [Option.bind_some]
  rw [show ((((((((0 * 256 + m2) * 256 + m3) * 256 + m4) * 256 + m5) * 256 + m6) * 256 + m7) * 256 + m8) * 256 + m9) = ((((0 * 65536 + (m2 * 256 + m3)) * 65536 + (m4 * 256 + m5)) * 65536 + (m6 * 256 + m7)) * 65536 + (m8 * 256 + m9)) by omega]
  have hf : FrOk (⟨pow12 b0 b1 b2 b3 b4 b5 b6 b7 b8 b9 b10 b11, true, m0 * 256 + m1, ((((0 * 65536 + (m2 * 256 + m3)) * 65536 + (m4 * 256 + m5)) * 65536 + (m6 * 256 + m7)) * 65536 + (m8 * 256 + m9))⟩ : api_Frame) := by constructor <;> simp only [pow12] <;> omega
  have he : encB (pow12 b0 b1 b2 b3 b4 b5 b6 b7 b8 b9 b10 b11) true (m0 * 256 + m1) ((((0 * 65536 + (m2 * 256 + m3)) * 65536 + (m4 * 256 + m5)) * 65536 + (m6 * 256 + m7)) * 65536 + (m8 * 256 + m9)) = [78, 1, b0, b1, b2, b3, b4, b5, b6, b7, b8, b9, b10, b11, m0, m1, m2, m3, m4, m5, m6, m7, m8, m9] ++ pairs [wsum 0 [78, 1, b0, b1, b2, b3, b4, b5, b6, b7, b8, b9, b10, b11, m0, m1, m2, m3, m4, m5, m6, m7, m8, m9] % 65521] := by
    have eb : bodyB (pow12 b0 b1 b2 b3 b4 b5 b6 b7 b8 b9 b10 b11) true (m0 * 256 + m1) ((((0 * 65536 + (m2 * 256 + m3)) * 65536 + (m4 * 256 + m5)) * 65536 + (m6 * 256 + m7)) * 65536 + (m8 * 256 + m9)) = [78, 1, b0, b1, b2, b3, b4, b5, b6, b7, b8, b9, b10, b11, m0, m1, m2, m3, m4, m5, m6, m7, m8, m9] := by
      simp only [bodyB, pairs, pow12, if_true, Bool.false_eq_true, if_false, List.flatMap_cons, List.flatMap_nil, List.cons_append, List.nil_append, List.append_nil, List.cons.injEq, and_true, true_and]
      refine ⟨?_, ?_, ?_, ?_, ?_, ?_, ?_, ?_, ?_, ?_, ?_, ?_, ?_, ?_, ?_, ?_, ?_, ?_, ?_, ?_, ?_, ?_⟩ <;> omega
    unfold encB; rw [eb]
  have key := encode_r hf
  have hby : Byte (encB (pow12 b0 b1 b2 b3 b4 b5 b6 b7 b8 b9 b10 b11) true (m0 * 256 + m1) ((((0 * 65536 + (m2 * 256 + m3)) * 65536 + (m4 * 256 + m5)) * 65536 + (m6 * 256 + m7)) * 65536 + (m8 * 256 + m9))) := encB_byte hf
  simp only [pow12] at key hby he ⊢
  rw [key]; simp only [Option.bind_some]
  rw [seqB_strOfB hby h, he]
  have hq : ([78, 1, b0, b1, b2, b3, b4, b5, b6, b7, b8, b9, b10, b11, m0, m1, m2, m3, m4, m5, m6, m7, m8, m9] ++ pairs [wsum 0 [78, 1, b0, b1, b2, b3, b4, b5, b6, b7, b8, b9, b10, b11, m0, m1, m2, m3, m4, m5, m6, m7, m8, m9] % 65521] = [x0, x1, b0, b1, b2, b3, b4, b5, b6, b7, b8, b9, b10, b11, m0, m1, m2, m3, m4, m5, m6, m7, m8, m9, c0, c1]) ↔ (x0 = 78 ∧ x1 = 1 ∧ c0 * 256 + c1 = wsum 0 [x0, x1, b0, b1, b2, b3, b4, b5, b6, b7, b8, b9, b10, b11, m0, m1, m2, m3, m4, m5, m6, m7, m8, m9] % 65521) := by
    simp only [pairs, List.flatMap_cons, List.flatMap_nil, List.cons_append, List.nil_append, List.append_nil, List.cons.injEq, and_true, true_and]
    constructor
    · rintro ⟨rfl, rfl, k1, k2⟩; exact ⟨rfl, rfl, by omega⟩
    · rintro ⟨rfl, rfl, k1⟩; exact ⟨rfl, rfl, by omega, by omega⟩
  by_cases k : x0 = 78 ∧ x1 = 1 ∧ c0 * 256 + c1 = wsum 0 [x0, x1, b0, b1, b2, b3, b4, b5, b6, b7, b8, b9, b10, b11, m0, m1, m2, m3, m4, m5, m6, m7, m8, m9] % 65521
  · rw [decide_eq_true (hq.2 k)]
    exact (congrArg some (if_pos k)).symm
  · rw [decide_eq_false (fun e => k (hq.1 e))]
    exact (congrArg some (if_neg k)).symm

end Go.AM
