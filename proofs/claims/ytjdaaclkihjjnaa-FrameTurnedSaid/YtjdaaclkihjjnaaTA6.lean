import Derived.Test.YtjdaaclkihjjnaaTA5
/-
  Plain law: FrameAny.
-/
set_option linter.unusedVariables false
set_option linter.unusedSimpArgs false
namespace Go.AM
open Go

theorem enc16 {x0 x1 b0 b1 b2 b3 b4 b5 b6 b7 b8 b9 b10 b11 c0 c1 : Int} (h : Byte [x0, x1, b0, b1, b2, b3, b4, b5, b6, b7, b8, b9, b10, b11, c0, c1]) (hc : x0 = 78 ∧ x1 = 0 ∧ c0 * 256 + c1 = wsum 0 [x0, x1, b0, b1, b2, b3, b4, b5, b6, b7, b8, b9, b10, b11] % 65521) : frame_Encode (⟨pow12 b0 b1 b2 b3 b4 b5 b6 b7 b8 b9 b10 b11, false, 0, 0⟩ : api_Frame) = some (strOfB [x0, x1, b0, b1, b2, b3, b4, b5, b6, b7, b8, b9, b10, b11, c0, c1]) := by
  have q_x0 := h x0 (by simp)
  have q_x1 := h x1 (by simp)
  have q_b0 := h b0 (by simp)
  have q_b1 := h b1 (by simp)
  have q_b2 := h b2 (by simp)
  have q_b3 := h b3 (by simp)
  have q_b4 := h b4 (by simp)
  have q_b5 := h b5 (by simp)
  have q_b6 := h b6 (by simp)
  have q_b7 := h b7 (by simp)
  have q_b8 := h b8 (by simp)
  have q_b9 := h b9 (by simp)
  have q_b10 := h b10 (by simp)
  have q_b11 := h b11 (by simp)
  have q_c0 := h c0 (by simp)
  have q_c1 := h c1 (by simp)
  obtain ⟨rfl, rfl, hc⟩ := hc
  have hf : FrOk (⟨pow12 b0 b1 b2 b3 b4 b5 b6 b7 b8 b9 b10 b11, false, 0, 0⟩ : api_Frame) := by constructor <;> simp only [pow12] <;> omega
  have eb : bodyB (pow12 b0 b1 b2 b3 b4 b5 b6 b7 b8 b9 b10 b11) false (0) 0 = [78, 0, b0, b1, b2, b3, b4, b5, b6, b7, b8, b9, b10, b11] := by
    simp only [bodyB, pairs, pow12, if_true, Bool.false_eq_true, if_false, List.flatMap_cons, List.flatMap_nil, List.cons_append, List.nil_append, List.append_nil, List.cons.injEq, and_true, true_and]
    refine ⟨?_, ?_, ?_, ?_, ?_, ?_, ?_, ?_, ?_, ?_, ?_, ?_⟩ <;> omega
  have key := encode_f hf
  simp only [] at key
  rw [key]
  unfold encB
  rw [eb, ← hc]
  simp only [pairs, List.flatMap_cons, List.flatMap_nil, List.append_nil, w1 q_c1, w2 q_c1, List.cons_append, List.nil_append]

theorem enc26 {x0 x1 b0 b1 b2 b3 b4 b5 b6 b7 b8 b9 b10 b11 m0 m1 m2 m3 m4 m5 m6 m7 m8 m9 c0 c1 : Int} (h : Byte [x0, x1, b0, b1, b2, b3, b4, b5, b6, b7, b8, b9, b10, b11, m0, m1, m2, m3, m4, m5, m6, m7, m8, m9, c0, c1]) (hc : x0 = 78 ∧ x1 = 1 ∧ c0 * 256 + c1 = wsum 0 [x0, x1, b0, b1, b2, b3, b4, b5, b6, b7, b8, b9, b10, b11, m0, m1, m2, m3, m4, m5, m6, m7, m8, m9] % 65521) : frame_Encode (⟨pow12 b0 b1 b2 b3 b4 b5 b6 b7 b8 b9 b10 b11, true, m0 * 256 + m1, ((((0 * 65536 + (m2 * 256 + m3)) * 65536 + (m4 * 256 + m5)) * 65536 + (m6 * 256 + m7)) * 65536 + (m8 * 256 + m9))⟩ : api_Frame) = some (strOfB [x0, x1, b0, b1, b2, b3, b4, b5, b6, b7, b8, b9, b10, b11, m0, m1, m2, m3, m4, m5, m6, m7, m8, m9, c0, c1]) := by
  have q_x0 := h x0 (by simp)
  have q_x1 := h x1 (by simp)
  have q_b0 := h b0 (by simp)
  have q_b1 := h b1 (by simp)
  have q_b2 := h b2 (by simp)
  have q_b3 := h b3 (by simp)
  have q_b4 := h b4 (by simp)
  have q_b5 := h b5 (by simp)
  have q_b6 := h b6 (by simp)
  have q_b7 := h b7 (by simp)
  have q_b8 := h b8 (by simp)
  have q_b9 := h b9 (by simp)
  have q_b10 := h b10 (by simp)
  have q_b11 := h b11 (by simp)
  have q_m0 := h m0 (by simp)
  have q_m1 := h m1 (by simp)
  have q_m2 := h m2 (by simp)
  have q_m3 := h m3 (by simp)
  have q_m4 := h m4 (by simp)
  have q_m5 := h m5 (by simp)
  have q_m6 := h m6 (by simp)
  have q_m7 := h m7 (by simp)
  have q_m8 := h m8 (by simp)
  have q_m9 := h m9 (by simp)
  have q_c0 := h c0 (by simp)
  have q_c1 := h c1 (by simp)
  obtain ⟨rfl, rfl, hc⟩ := hc
  have hf : FrOk (⟨pow12 b0 b1 b2 b3 b4 b5 b6 b7 b8 b9 b10 b11, true, m0 * 256 + m1, ((((0 * 65536 + (m2 * 256 + m3)) * 65536 + (m4 * 256 + m5)) * 65536 + (m6 * 256 + m7)) * 65536 + (m8 * 256 + m9))⟩ : api_Frame) := by constructor <;> simp only [pow12] <;> omega
  have eb : bodyB (pow12 b0 b1 b2 b3 b4 b5 b6 b7 b8 b9 b10 b11) true (m0 * 256 + m1) ((((0 * 65536 + (m2 * 256 + m3)) * 65536 + (m4 * 256 + m5)) * 65536 + (m6 * 256 + m7)) * 65536 + (m8 * 256 + m9)) = [78, 1, b0, b1, b2, b3, b4, b5, b6, b7, b8, b9, b10, b11, m0, m1, m2, m3, m4, m5, m6, m7, m8, m9] := by
    simp only [bodyB, pairs, pow12, if_true, Bool.false_eq_true, if_false, List.flatMap_cons, List.flatMap_nil, List.cons_append, List.nil_append, List.append_nil, List.cons.injEq, and_true, true_and]
    refine ⟨?_, ?_, ?_, ?_, ?_, ?_, ?_, ?_, ?_, ?_, ?_, ?_, ?_, ?_, ?_, ?_, ?_, ?_, ?_, ?_, ?_, ?_⟩ <;> omega
  have key := encode_f hf
  simp only [] at key
  rw [key]
  unfold encB
  rw [eb, ← hc]
  simp only [pairs, List.flatMap_cons, List.flatMap_nil, List.append_nil, w1 q_c1, w2 q_c1, List.cons_append, List.nil_append]

theorem awake03 : law03_awake = some true := by
  have h1 : frame_Tagged (A8.mk 1 2 3 4 0 0 0 0) 7 9 = some (⟨⟨0, 0, 3, 4, 0, 0, 0, 0⟩, true, 7, 9⟩ : api_Frame) := rfl
  have h2 := encode_f (f := ⟨⟨0, 0, 3, 4, 0, 0, 0, 0⟩, true, 7, 9⟩) (by constructor <;> decide)
  have h3 : encB ⟨0, 0, 3, 4, 0, 0, 0, 0⟩ true 7 9 = [78, 1, 0, 3, 0, 4, 0, 0, 0, 0, 0, 0, 0, 0, 0, 7, 0, 0, 0, 0, 0, 0, 0, 9, 1, 188] := by decide +kernel
  simp only [h3] at h2
  have h4 := dec26 (x0 := 78) (x1 := 1) (b0 := 0) (b1 := 3) (b2 := 0) (b3 := 4) (b4 := 0) (b5 := 0) (b6 := 0) (b7 := 0) (b8 := 0) (b9 := 0) (b10 := 0) (b11 := 0) (m0 := 0) (m1 := 7) (m2 := 0) (m3 := 0) (m4 := 0) (m5 := 0) (m6 := 0) (m7 := 0) (m8 := 0) (m9 := 9) (c0 := 1) (c1 := 188) (by unfold Byte; decide)
  rw [if_pos (by decide)] at h4
  unfold law03_awake
  simp only [h1, h2, h4, Option.bind_some]
  rfl

/-- both say one thing, and what is good is written so again -/
theorem any_fin {s : ByteArray} {f : api_Frame} {c : Prop} [Decidable c] (h1 : frame_Decode s = some (if c then (f, 0) else (fr0, 30))) (h2 : ref03_Decode s = some (if c then (f, true) else (fr0, false))) (h3 : c → frame_Encode f = some s) : law03_FrameAny s = some true := by
  unfold law03_FrameAny
  rw [awake03]; simp only [Option.bind_some]
  rw [if_neg (by decide)]
  by_cases hs : decide ((s.size : Int) > 300) = true
  · rw [if_pos hs]
  · rw [if_neg hs, h1, h2]
    simp only [Option.bind_some]
    by_cases hc : c
    · simp only [if_pos hc]
      rw [if_neg (by simp)]
      simp only [if_true, h3 hc, Option.bind_some]
      rw [if_pos (by rw [seqB_eq]; simp)]
      rfl
    · simp only [if_neg hc]
      rw [if_neg (by simp)]
      rfl

theorem law_FrameAny (s : ByteArray) : law03_FrameAny s = some true := by
  by_cases h16 : s.size = 16
  · have hl : (bytesOf s).length = 16 := by rw [bytesOf_len, h16]
    have hb := bytesOf_byte s
    have hs := strOfB_bytesOf s
    generalize bytesOf s = l at hl hb hs
    subst hs
    match l, hl with
    | [x0, x1, b0, b1, b2, b3, b4, b5, b6, b7, b8, b9, b10, b11, c0, c1], _ => exact any_fin (dec16 hb) (ref16 hb) (enc16 hb)
  · by_cases h26 : s.size = 26
    · have hl : (bytesOf s).length = 26 := by rw [bytesOf_len, h26]
      have hb := bytesOf_byte s
      have hs := strOfB_bytesOf s
      generalize bytesOf s = l at hl hb hs
      subst hs
      match l, hl with
      | [x0, x1, b0, b1, b2, b3, b4, b5, b6, b7, b8, b9, b10, b11, m0, m1, m2, m3, m4, m5, m6, m7, m8, m9, c0, c1], _ => exact any_fin (dec26 hb) (ref26 hb) (enc26 hb)
    · obtain ⟨h1, h2⟩ := dec_len h16 h26
      exact any_fin (c := False) (f := fr0) (by rw [h1]; rfl) (by rw [h2]; rfl) (fun h => h.elim)

end Go.AM
