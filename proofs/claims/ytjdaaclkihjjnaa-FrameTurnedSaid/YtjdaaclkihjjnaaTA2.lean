import Derived.Test.YtjdaaclkihjjnaaTA1
/-
  Plain facts: how frames are encoded.
-/
set_option linter.unusedVariables false
set_option linter.unusedSimpArgs false
namespace Go.AM
open Go

theorem gapp_some {α : Type} {xs ys : List α} (h : xs.length + ys.length ≤ 4294967296) : gapp xs ys = some (xs ++ ys) := by unfold gapp; rw [if_pos h]

theorem two_f {l : List Int} {n : Int} (h : 0 ≤ n ∧ n < 65536) (hl : l.length ≤ 10000) : frame_two l n = some (l ++ [n / 256, n % 256]) := by
  unfold frame_two
  have e : n.fdiv (2 ^ 8) = n / 256 := by rw [Int.fdiv_eq_ediv_of_nonneg _ (by decide)]; rfl
  have e1 : IntKind.u8.wrap (n.fdiv (2 ^ 8)) = n / 256 := by rw [e, w_u8]; omega
  rw [e1, w_u8, gapp_some (by simp; omega)]
  rfl

theorem two_r {n : Int} (h : 0 ≤ n ∧ n < 65536) : ref03_Two n = some [n / 256, n % 256] := by
  unfold ref03_Two
  rw [Int.tdiv_eq_ediv_of_nonneg h.1, Int.tmod_eq_emod_of_nonneg h.1, w_u8, w_u8, w_u16]
  rw [show n / 256 % 65536 % 256 = n / 256 by omega, show n % 256 % 256 = n % 256 by omega]

def pairs (l : List Int) : List Int := l.flatMap fun n => [n / 256, n % 256]

def bodyB (p : A8 Int) (tg : Bool) (tag dg : Int) : List Int :=
  [78, if tg then 1 else 0] ++ pairs [p.a2, p.a3, p.a4, p.a5, p.a6, p.a7] ++ (if tg then pairs [tag, dg / 281474976710656 % 65536, dg / 4294967296 % 65536, dg / 65536 % 65536, dg % 65536] else [])
def encB (p : A8 Int) (tg : Bool) (tag dg : Int) : List Int := bodyB p tg tag dg ++ pairs [wsum 0 (bodyB p tg tag dg) % 65521]

structure FrOk (f : api_Frame) : Prop where
  w2 : 0 ≤ f.P.a2 ∧ f.P.a2 < 65536
  w3 : 0 ≤ f.P.a3 ∧ f.P.a3 < 65536
  w4 : 0 ≤ f.P.a4 ∧ f.P.a4 < 65536
  w5 : 0 ≤ f.P.a5 ∧ f.P.a5 < 65536
  w6 : 0 ≤ f.P.a6 ∧ f.P.a6 < 65536
  w7 : 0 ≤ f.P.a7 ∧ f.P.a7 < 65536
  t : 0 ≤ f.Tag ∧ f.Tag < 65536
  d : 0 ≤ f.Digest ∧ f.Digest < 18446744073709551616

theorem bodyB_byte {f : api_Frame} (h : FrOk f) : Byte (bodyB f.P f.Tagged f.Tag f.Digest) := by
  obtain ⟨w2, w3, w4, w5, w6, w7, t, d⟩ := h
  intro b hb
  cases ht : f.Tagged with
  | false =>
    simp [bodyB, pairs, ht] at hb
    rcases hb with rfl | rfl | rfl | rfl | rfl | rfl | rfl | rfl | rfl | rfl | rfl | rfl | rfl | rfl <;> omega
  | true =>
    simp [bodyB, pairs, ht] at hb
    rcases hb with rfl | rfl | rfl | rfl | rfl | rfl | rfl | rfl | rfl | rfl | rfl | rfl | rfl | rfl | rfl | rfl | rfl | rfl | rfl | rfl | rfl | rfl | rfl | rfl <;> omega

theorem bodyB_len (f : api_Frame) : (bodyB f.P f.Tagged f.Tag f.Digest).length ≤ 24 := by
  cases ht : f.Tagged <;> simp [bodyB, pairs]

theorem FUEL_6 : ∃ k, FUEL = k + 6 := ⟨FUEL - 6, by unfold FUEL; rfl⟩

theorem sh_f (d : Int) (k : Nat) (i : Int) (hi : i = k) (hk : k ≤ 64) : shrI .u64 d i = some (d / 2 ^ k) := by
  subst hi
  unfold shrI
  rw [if_neg (by omega), Int.toNat_natCast, show IntKind.u64.bits = 64 from rfl, Nat.min_eq_left hk, Int.fdiv_eq_ediv_of_nonneg]
  exact Int.le_of_lt (Int.pow_pos (by decide))

theorem enc_tail {l : List Int} (hb : Byte l) (hl : l.length ≤ 1000) : ((frame_check l).bind fun r26 => (frame_two l r26).bind fun r27 => some (strOfB r27)) = some (strOfB (l ++ pairs [wsum 0 l % 65521])) := by
  rw [check_f hb (by omega)]
  have := wsum_bound l 0 hb
  simp only [Option.bind_some]
  rw [two_f (by omega) (by omega)]
  rfl

theorem enc_tail_r {l : List Int} (hb : Byte l) (hl : l.length ≤ 1000) : ((ref03_Check l).bind fun r34 => (ref03_Two r34).bind fun r35 => (gapp l r35).bind fun l36 => some (strOfB l36)) = some (strOfB (l ++ pairs [wsum 0 l % 65521])) := by
  rw [check_r hb (by omega)]
  have := wsum_bound l 0 hb
  simp only [Option.bind_some]
  rw [two_r (by omega)]
  simp only [Option.bind_some]
  rw [gapp_some (by simp; omega)]
  rfl

theorem encode_f {f : api_Frame} (h : FrOk f) : frame_Encode f = some (strOfB (encB f.P f.Tagged f.Tag f.Digest)) := by
  have hb := bodyB_byte h
  have hl := bodyB_len f
  obtain ⟨w2, w3, w4, w5, w6, w7, t, d⟩ := h
  have ei : irange 0 (([f.P.a2, f.P.a3, f.P.a4, f.P.a5, f.P.a6, f.P.a7] : List Int).length : Int) = [0, 1, 2, 3, 4, 5] := rfl
  obtain ⟨k, hk⟩ := FUEL_6
  unfold frame_Encode
  rw [ei]
  simp only [forO, frame_Encode_b1, gat]
  simp only [show (0 : Int) ≤ 0 from by decide, show (0 : Int) ≤ 1 from by decide, show (0 : Int) ≤ 2 from by decide, show (0 : Int) ≤ 3 from by decide, show (0 : Int) ≤ 4 from by decide, show (0 : Int) ≤ 5 from by decide, if_true, show (0 : Int).toNat = 0 from rfl, show (1 : Int).toNat = 1 from rfl, show (2 : Int).toNat = 2 from rfl, show (3 : Int).toNat = 3 from rfl, show (4 : Int).toNat = 4 from rfl, show (5 : Int).toNat = 5 from rfl, List.getElem?_cons_zero, List.getElem?_cons_succ, Option.bind_some]
  rw [two_f w2 (by simp)]; simp only [Option.bind_some]
  rw [two_f w3 (by simp)]; simp only [Option.bind_some]
  rw [two_f w4 (by simp)]; simp only [Option.bind_some]
  rw [two_f w5 (by simp)]; simp only [Option.bind_some]
  rw [two_f w6 (by simp)]; simp only [Option.bind_some]
  rw [two_f w7 (by simp)]; simp only [Option.bind_some]
  cases ht : f.Tagged with
  | false =>
    rw [ht] at hb hl
    simp only [Bool.false_eq_true, if_false, Option.bind_some]
    rw [show ([78, 0] ++ [f.P.a2 / 256, f.P.a2 % 256] ++ [f.P.a3 / 256, f.P.a3 % 256] ++ [f.P.a4 / 256, f.P.a4 % 256] ++ [f.P.a5 / 256, f.P.a5 % 256] ++ [f.P.a6 / 256, f.P.a6 % 256] ++ [f.P.a7 / 256, f.P.a7 % 256] : List Int) = bodyB f.P false f.Tag f.Digest from rfl]
    exact enc_tail hb (by omega)
  | true =>
    rw [ht] at hb hl
    simp only [if_true, List.cons_append, List.nil_append, List.getElem?_cons_succ, List.getElem?_cons_zero, Option.bind_some, gput, List.length_cons, List.length_nil]
    simp only [show (0 : Int) ≤ 1 from by decide, if_true, show (1 : Int).toNat = 1 from rfl, List.set_cons_succ, List.set_cons_zero, Option.bind_some]
    rw [if_pos (by decide)]; simp only [Option.bind_some]
    rw [two_f t (by simp)]; simp only [Option.bind_some]
    rw [hk]
    simp only [whK, frame_Encode_b2, show decide ((48 : Int) ≥ 0) = true from rfl, if_true]
    rw [sh_f _ 48 48 rfl (by decide)]; simp only [Option.bind_some]
    rw [w_u16, two_f (by omega) (by simp)]; simp only [Option.bind_some]
    rw [w_i64 (by decide) (by decide)]
    simp only [show decide ((48 - 16 : Int) ≥ 0) = true from rfl, if_true]
    rw [sh_f _ 32 (48 - 16) rfl (by decide)]; simp only [Option.bind_some]
    rw [w_u16, two_f (by omega) (by simp)]; simp only [Option.bind_some]
    rw [w_i64 (by decide) (by decide)]
    simp only [show decide ((48 - 16 - 16 : Int) ≥ 0) = true from rfl, if_true]
    rw [sh_f _ 16 (48 - 16 - 16) rfl (by decide)]; simp only [Option.bind_some]
    rw [w_u16, two_f (by omega) (by simp)]; simp only [Option.bind_some]
    rw [w_i64 (by decide) (by decide)]
    simp only [show decide ((48 - 16 - 16 - 16 : Int) ≥ 0) = true from rfl, if_true]
    rw [sh_f _ 0 (48 - 16 - 16 - 16) rfl (by decide)]; simp only [Option.bind_some]
    rw [w_u16, two_f (by omega) (by simp)]; simp only [Option.bind_some]
    rw [w_i64 (by decide) (by decide)]
    simp only [show decide ((48 - 16 - 16 - 16 - 16 : Int) ≥ 0) = false from rfl, Bool.false_eq_true, if_false, Option.bind_some]
    have e0 : f.Digest / 2 ^ 0 % 65536 = f.Digest % 65536 := by simp
    rw [e0]
    exact enc_tail (l := bodyB f.P true f.Tag f.Digest) hb (by omega)

end Go.AM
