import Derived.Test.YtjdaaclkihjjnaaTA2
/-
  Plain facts: the document's Encode; reading words.
-/
set_option linter.unusedVariables false
set_option linter.unusedSimpArgs false
namespace Go.AM
open Go

theorem A8.get2 {α : Type} (p : A8 α) : p.get 2 = some p.a2 := rfl
theorem A8.get3 {α : Type} (p : A8 α) : p.get 3 = some p.a3 := rfl
theorem A8.get4 {α : Type} (p : A8 α) : p.get 4 = some p.a4 := rfl
theorem A8.get5 {α : Type} (p : A8 α) : p.get 5 = some p.a5 := rfl
theorem A8.get6 {α : Type} (p : A8 α) : p.get 6 = some p.a6 := rfl
theorem A8.get7 {α : Type} (p : A8 α) : p.get 7 = some p.a7 := rfl
theorem A8.put2 {α : Type} (p : A8 α) (v : α) : p.put 2 v = some ⟨p.a0, p.a1, v, p.a3, p.a4, p.a5, p.a6, p.a7⟩ := rfl
theorem A8.put3 {α : Type} (p : A8 α) (v : α) : p.put 3 v = some ⟨p.a0, p.a1, p.a2, v, p.a4, p.a5, p.a6, p.a7⟩ := rfl
theorem A8.put4 {α : Type} (p : A8 α) (v : α) : p.put 4 v = some ⟨p.a0, p.a1, p.a2, p.a3, v, p.a5, p.a6, p.a7⟩ := rfl
theorem A8.put5 {α : Type} (p : A8 α) (v : α) : p.put 5 v = some ⟨p.a0, p.a1, p.a2, p.a3, p.a4, v, p.a6, p.a7⟩ := rfl
theorem A8.put6 {α : Type} (p : A8 α) (v : α) : p.put 6 v = some ⟨p.a0, p.a1, p.a2, p.a3, p.a4, p.a5, v, p.a7⟩ := rfl
theorem A8.put7 {α : Type} (p : A8 α) (v : α) : p.put 7 v = some ⟨p.a0, p.a1, p.a2, p.a3, p.a4, p.a5, p.a6, v⟩ := rfl

theorem encR_step {f : api_Frame} {i n : Int} {l : List Int} (hg : f.P.get i = some n) (h : 0 ≤ n ∧ n < 65536) (hl : l.length ≤ 1000) : ref03_Encode_b1 f i l = some (l ++ [n / 256, n % 256]) := by
  simp only [ref03_Encode_b1, hg, Option.bind_some, two_r h]
  rw [gapp_some (by simp; omega)]
  rfl

theorem encR_step2 {f : api_Frame} (i : Int) (k : Nat) {l : List Int} (hi : IntKind.i64.wrap (8 * i) = k) (hk : k ≤ 64) (hl : l.length ≤ 1000) : ref03_Encode_b2 f i l = some (l ++ [f.Digest / 2 ^ k % 256]) := by
  simp only [ref03_Encode_b2]
  rw [sh_f _ k _ hi hk]
  simp only [Option.bind_some]
  rw [gapp_some (by simp; omega), w_u8]
  rfl

theorem encode_r {f : api_Frame} (h : FrOk f) : ref03_Encode f = some (strOfB (encB f.P f.Tagged f.Tag f.Digest)) := by
  have hb := bodyB_byte h
  have hl := bodyB_len f
  obtain ⟨w2, w3, w4, w5, w6, w7, t, d⟩ := h
  have ei : irange 2 8 = [2, 3, 4, 5, 6, 7] := rfl
  have ed : drange 7 (-1) = [7, 6, 5, 4, 3, 2, 1, 0] := rfl
  unfold ref03_Encode
  cases ht : f.Tagged with
  | false =>
    rw [ht] at hb hl
    simp only [Bool.false_eq_true, if_false, Option.bind_some, ei, forO]
    rw [encR_step (A8.get2 _) w2 (by simp)]; simp only [Option.bind_some]
    rw [encR_step (A8.get3 _) w3 (by simp)]; simp only [Option.bind_some]
    rw [encR_step (A8.get4 _) w4 (by simp)]; simp only [Option.bind_some]
    rw [encR_step (A8.get5 _) w5 (by simp)]; simp only [Option.bind_some]
    rw [encR_step (A8.get6 _) w6 (by simp)]; simp only [Option.bind_some]
    rw [encR_step (A8.get7 _) w7 (by simp)]; simp only [Option.bind_some]
    exact enc_tail_r (l := bodyB f.P false f.Tag f.Digest) hb (by omega)
  | true =>
    rw [ht] at hb hl
    have e1 : gat ([78, 0] : List Int) 1 = some 0 := rfl
    have e2 : gput ([78, 0] : List Int) 1 1 = some [78, 1] := rfl
    simp only [if_true, e1, e2, Option.bind_some, ei, ed, forO]
    rw [encR_step (A8.get2 _) w2 (by simp)]; simp only [Option.bind_some]
    rw [encR_step (A8.get3 _) w3 (by simp)]; simp only [Option.bind_some]
    rw [encR_step (A8.get4 _) w4 (by simp)]; simp only [Option.bind_some]
    rw [encR_step (A8.get5 _) w5 (by simp)]; simp only [Option.bind_some]
    rw [encR_step (A8.get6 _) w6 (by simp)]; simp only [Option.bind_some]
    rw [encR_step (A8.get7 _) w7 (by simp)]; simp only [Option.bind_some]
    rw [two_r t]; simp only [Option.bind_some]
    rw [gapp_some (by simp)]; simp only [Option.bind_some]
    rw [encR_step2 7 56 (by decide) (by decide) (by simp)]; simp only [Option.bind_some]
    rw [encR_step2 6 48 (by decide) (by decide) (by simp)]; simp only [Option.bind_some]
    rw [encR_step2 5 40 (by decide) (by decide) (by simp)]; simp only [Option.bind_some]
    rw [encR_step2 4 32 (by decide) (by decide) (by simp)]; simp only [Option.bind_some]
    rw [encR_step2 3 24 (by decide) (by decide) (by simp)]; simp only [Option.bind_some]
    rw [encR_step2 2 16 (by decide) (by decide) (by simp)]; simp only [Option.bind_some]
    rw [encR_step2 1 8 (by decide) (by decide) (by simp)]; simp only [Option.bind_some]
    rw [encR_step2 0 0 (by decide) (by decide) (by simp)]; simp only [Option.bind_some]
    have e : ([78, 1] ++ [f.P.a2 / 256, f.P.a2 % 256] ++ [f.P.a3 / 256, f.P.a3 % 256] ++ [f.P.a4 / 256, f.P.a4 % 256] ++ [f.P.a5 / 256, f.P.a5 % 256] ++ [f.P.a6 / 256, f.P.a6 % 256] ++ [f.P.a7 / 256, f.P.a7 % 256] ++ [f.Tag / 256, f.Tag % 256] ++ [f.Digest / 2 ^ 56 % 256] ++ [f.Digest / 2 ^ 48 % 256] ++ [f.Digest / 2 ^ 40 % 256] ++ [f.Digest / 2 ^ 32 % 256] ++ [f.Digest / 2 ^ 24 % 256] ++ [f.Digest / 2 ^ 16 % 256] ++ [f.Digest / 2 ^ 8 % 256] ++ [f.Digest / 2 ^ 0 % 256] : List Int) = bodyB f.P true f.Tag f.Digest := by
      simp only [bodyB, pairs, if_true, List.flatMap_cons, List.flatMap_nil, List.cons_append, List.nil_append, List.append_nil, List.cons.injEq, and_true, true_and]
      refine ⟨?_, ?_, ?_, ?_, ?_, ?_, ?_, ?_⟩ <;> omega
    rw [e]
    exact enc_tail_r (l := bodyB f.P true f.Tag f.Digest) hb (by omega)

theorem cutb {l : List Int} {a b : Nat} {x y : Int} (hx : x = a) (hy : y = b) (h1 : a ≤ b) (h2 : b ≤ l.length) : scut (strOfB l) x y = some (strOfB ((l.drop a).take (b - a))) := by
  subst hx; subst hy; exact scut_strOfB l h1 h2

theorem batb {l : List Int} (h : Byte l) {i : Nat} {x b : Int} (hx : x = i) (hb : l[i]? = some b) : bat (strOfB l) x = some b := by
  subst hx; exact bat_strOfB h hb

theorem rd_two {a b : Int} {l : List Int} (h : Byte (a :: b :: l)) : frame_reader_two ⟨strOfB (a :: b :: l)⟩ = some (a * 256 + b, ⟨strOfB l⟩) := by
  unfold frame_reader_two
  simp only []
  rw [batb h (x := 0) (i := 0) rfl rfl]; simp only [Option.bind_some]
  rw [batb h (x := 1) (i := 1) rfl rfl]; simp only [Option.bind_some]
  rw [cutb (x := 2) (a := 2) (b := l.length + 2) rfl (by rw [strOfB_size]; simp; omega) (by omega) (by simp)]
  simp only [Option.bind_some]
  rw [or16 (h a (by simp)) (h b (by simp))]
  simp

theorem num_r {l : List Int} (h : Byte l) {i : Nat} {x a b : Int} (hx : x = i) (hi : i ≤ 1000) (ha : l[i]? = some a) (hb : l[i + 1]? = some b) : ref03_number (strOfB l) x = some (a * 256 + b) := by
  subst hx
  unfold ref03_number
  have h1 := h a (List.mem_of_getElem? ha)
  have h2 := h b (List.mem_of_getElem? hb)
  rw [batb h rfl ha]; simp only [Option.bind_some]
  rw [w_i64 (by omega) (by omega), batb h (i := i + 1) (by push_cast; rfl) hb]; simp only [Option.bind_some]
  simp only [w_u16]
  congr 1
  omega

theorem w1 {a b : Int} (h : 0 ≤ b ∧ b < 256) : (a * 256 + b) / 256 = a := by omega
theorem w2 {a b : Int} (h : 0 ≤ b ∧ b < 256) : (a * 256 + b) % 256 = b := by omega

end Go.AM
