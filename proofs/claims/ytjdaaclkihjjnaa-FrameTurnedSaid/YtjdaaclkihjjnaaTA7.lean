import Derived.Test.YtjdaaclkihjjnaaTA6
/-
  Plain law: FrameBack.
-/
set_option linter.unusedVariables false
set_option linter.unusedSimpArgs false
namespace Go.AM
open Go

def cleanF (f : api_Frame) : api_Frame := ⟨⟨0, 0, f.P.a2, f.P.a3, f.P.a4, f.P.a5, f.P.a6, f.P.a7⟩, f.Tagged, if f.Tagged then f.Tag else 0, if f.Tagged then f.Digest else 0⟩

theorem clean_eq (f : api_Frame) : ref03_Clean f = some (cleanF f) := by
  obtain ⟨p, tg, tag, dg⟩ := f
  cases tg <;> rfl

theorem wi {n : Int} : n / 256 * 256 + n % 256 = n := by omega

theorem decode_enc {f : api_Frame} (h : FrOk f) : frame_Decode (strOfB (encB f.P f.Tagged f.Tag f.Digest)) = some (cleanF f, 0) := by
  have hby := encB_byte h
  obtain ⟨w2, w3, w4, w5, w6, w7, t, d⟩ := h
  obtain ⟨p, tg, tag, dg⟩ := f
  simp only at *
  cases tg with
  | false =>
    have e : encB p false tag dg = [78, 0, p.a2 / 256, p.a2 % 256, p.a3 / 256, p.a3 % 256, p.a4 / 256, p.a4 % 256, p.a5 / 256, p.a5 % 256, p.a6 / 256, p.a6 % 256, p.a7 / 256, p.a7 % 256, wsum 0 (bodyB p false tag dg) % 65521 / 256, wsum 0 (bodyB p false tag dg) % 65521 % 256] := rfl
    rw [e] at hby ⊢
    rw [dec16 hby, if_pos ⟨rfl, rfl, wi.trans rfl⟩]
    simp only [pow12, wi, cleanF, Bool.false_eq_true, if_false]
  | true =>
    have e : encB p true tag dg = [78, 1, p.a2 / 256, p.a2 % 256, p.a3 / 256, p.a3 % 256, p.a4 / 256, p.a4 % 256, p.a5 / 256, p.a5 % 256, p.a6 / 256, p.a6 % 256, p.a7 / 256, p.a7 % 256, tag / 256, tag % 256, dg / 281474976710656 % 65536 / 256, dg / 281474976710656 % 65536 % 256, dg / 4294967296 % 65536 / 256, dg / 4294967296 % 65536 % 256, dg / 65536 % 65536 / 256, dg / 65536 % 65536 % 256, dg % 65536 / 256, dg % 65536 % 256, wsum 0 (bodyB p true tag dg) % 65521 / 256, wsum 0 (bodyB p true tag dg) % 65521 % 256] := rfl
    rw [e] at hby ⊢
    rw [dec26 hby, if_pos ⟨rfl, rfl, wi.trans rfl⟩]
    simp only [pow12, wi, cleanF, if_true]
    congr 3
    omega

theorem law_back {f : api_Frame} (h : FrOk f) : law03_FrameBack f = some true := by
  unfold law03_FrameBack
  rw [awake03]; simp only [Option.bind_some]
  rw [if_neg (by decide), encode_f h]
  simp only [Option.bind_some]
  rw [decode_enc h, encode_r h]
  simp only [Option.bind_some]
  rw [if_pos (by rw [seqB_eq]; simp), if_pos (by decide), clean_eq]
  simp only [Option.bind_some]
  rw [if_pos (by simp), clean_eq, clean_eq]
  have e1 : frame_Bare f.P = some (cleanF ⟨f.P, false, 0, 0⟩) := rfl
  have e2 : frame_Tagged f.P f.Tag f.Digest = some (cleanF ⟨f.P, true, f.Tag, f.Digest⟩) := rfl
  rw [e1, e2]
  simp only [Option.bind_some]
  rw [if_pos (by simp)]
  simp

theorem rg16 {n : Int} (h : IntKind.u16.wrap n = n) : 0 ≤ n ∧ n < 65536 := by rw [w_u16] at h; omega
theorem rg64 {n : Int} (h : IntKind.u64.wrap n = n) : 0 ≤ n ∧ n < 18446744073709551616 := by rw [w_u64] at h; omega
theorem rg8 {n : Int} (h : IntKind.u8.wrap n = n) : 0 ≤ n ∧ n < 256 := by rw [w_u8] at h; omega

end Go.AM
