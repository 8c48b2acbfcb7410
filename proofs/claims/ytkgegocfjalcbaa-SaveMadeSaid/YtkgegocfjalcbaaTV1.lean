import Derived.Test.YtkgegocfjalcbaaAmBy
import Derived.Test.YtkgegocfjalcbaaSvT
/-
  Plain law of Save, part 1: bytes of deeds.
-/
set_option linter.unusedVariables false
set_option linter.unusedSimpArgs false
namespace Go.AM
open Go

/-- a number's bytes -/
def num (n : Nat) : List Int := if n < 128 then [(n : Int)] else ((128 + n % 128 : Nat) : Int) :: num (n / 128)
termination_by n
decreasing_by omega

theorem pow6 : (128 : Nat) ^ (5 + 1) = 4398046511104 := by decide

theorem num_lt {n : Nat} (h : n < 128) : num n = [(n : Int)] := by rw [num, if_pos h]
theorem num_ge {n : Nat} (h : ¬ n < 128) : num n = ((128 + n % 128 : Nat) : Int) :: num (n / 128) := by rw [num, if_neg h]

theorem num_len : ∀ (k n : Nat), n < 128 ^ (k + 1) → (num n).length ≤ k + 1
  | 0, n, h => by rw [num_lt (by simpa using h)]; simp
  | k + 1, n, h => by
    by_cases c : n < 128
    · rw [num_lt c]; simp
    · rw [num_ge c]
      have := num_len k (n / 128) (by rw [Nat.div_lt_iff_lt_mul (by omega), ← Nat.pow_succ]; exact h)
      simp; omega

theorem num_byte (n : Nat) : Byte (num n) := by
  induction n using Nat.strongRecOn with
  | _ n ih =>
    by_cases c : n < 128
    · rw [num_lt c]; intro b hb; simp at hb; omega
    · rw [num_ge c]
      intro b hb
      rcases List.mem_cons.1 hb with rfl | hb
      · omega
      · exact ih (n / 128) (by omega) b hb

theorem or128 : ∀ a : Fin 256, orI .u8 (a.val : Int) 128 = 128 + (a.val : Int) % 128 := by decide +kernel

theorem or128' (n : Nat) : orI .u8 (IntKind.u8.wrap (n : Int)) 128 = ((128 + n % 128 : Nat) : Int) := by
  have := or128 ⟨n % 256, Nat.mod_lt _ (by omega)⟩
  rw [w_u8, show (n : Int) % 256 = ((n % 256 : Nat) : Int) by omega]
  refine this.trans ?_
  show (128 : Int) + ((n % 256 : Nat) : Int) % 128 = _
  omega

theorem number_loop : ∀ (k n m : Nat) (l : List Int), n < 128 ^ (k + 1) → l.length + k ≤ 4000000000 → ∃ z6 z7, whK save_number_b1 (m + k + 1) (l, (n : Int)) = some (z6, z7) ∧ z6 ++ [IntKind.u8.wrap z7] = l ++ num n ∧ z6.length ≤ l.length + k
  | 0, n, m, l, hn, hl => by
    have hn' : n < 128 := by simpa using hn
    refine ⟨l, (n : Int), ?_, ?_, by omega⟩
    · simp only [whK]
      have : save_number_b1 (l, (n : Int)) = some (.inr (l, (n : Int))) := by
        unfold save_number_b1
        show (if _ then _ else _) = _
        rw [if_neg (by simp; omega)]
      rw [this]; rfl
    · rw [num_lt hn', w_u8]
      congr 2; omega
  | k + 1, n, m, l, hn, hl => by
    by_cases c : n < 128
    · refine ⟨l, (n : Int), ?_, ?_, by omega⟩
      · simp only [whK]
        have : save_number_b1 (l, (n : Int)) = some (.inr (l, (n : Int))) := by
          unfold save_number_b1
          show (if _ then _ else _) = _
          rw [if_neg (by simp; omega)]
        rw [this]; rfl
      · rw [num_lt c, w_u8]
        congr 2; omega
    · have e : save_number_b1 (l, (n : Int)) = some (.inl (l ++ [((128 + n % 128 : Nat) : Int)], ((n / 128 : Nat) : Int))) := by
        unfold save_number_b1
        show (if _ then _ else _) = _
        rw [if_pos (by simp; omega), or128', gapp_some (by simp; omega)]
        simp only [Option.bind_some]
        rw [Int.fdiv_eq_ediv_of_nonneg _ (by decide), show (2 : Int) ^ 7 = 128 from rfl]
        rfl
      obtain ⟨z6, z7, e1, e2, e3⟩ := number_loop k (n / 128) m (l ++ [((128 + n % 128 : Nat) : Int)]) (by rw [Nat.div_lt_iff_lt_mul (by omega), ← Nat.pow_succ]; exact hn) (by simp; omega)
      refine ⟨z6, z7, ?_, ?_, by simp at e3; omega⟩
      · rw [show m + (k + 1) + 1 = (m + k + 1) + 1 by omega]
        simp only [whK]
        rw [e]
        simp only [Option.bind_some]
        exact e1
      · rw [e2, num_ge c]; simp

theorem number_s {l : List Int} {n : Nat} (hn : n < 1099511627776) (hl : l.length ≤ 3000000000) : save_number l (n : Int) = some (l ++ num n) := by
  unfold save_number
  obtain ⟨m, hm⟩ := FUEL_big 6 (by omega)
  obtain ⟨z6, z7, e1, e2, e3⟩ := number_loop 5 n m l (by rw [pow6]; omega) (by omega)
  rw [hm, show m + 6 = m + 5 + 1 from rfl, e1]
  show (gapp z6 _).bind _ = _
  rw [gapp_some (by simp; omega)]
  simp only [Option.bind_some]
  rw [e2]

theorem Number_loop : ∀ (k n m : Nat), k ≤ 100 → n < 128 ^ (k + 1) → n < 1099511627776 → ref32_Number_f (m + k + 1) (n : Int) = some (num n)
  | 0, n, m, hk, hn, _ => by
    have hn' : n < 128 := by simpa using hn
    show ref32_Number_s _ _ = _
    unfold ref32_Number_s
    rw [if_pos (by simp; omega), num_lt hn', w_u8]
    congr 2; omega
  | k + 1, n, m, hk, hn, hb => by
    rw [show m + (k + 1) + 1 = (m + k + 1) + 1 by omega]
    show ref32_Number_s _ _ = _
    unfold ref32_Number_s
    by_cases c : n < 128
    · rw [if_pos (by simp; omega), num_lt c, w_u8]
      congr 2; omega
    · have hn' : n / 128 < 128 ^ (k + 1) := by rw [Nat.div_lt_iff_lt_mul (by omega), ← Nat.pow_succ]; exact hn
      rw [if_neg (by simp; omega), Int.tdiv_eq_ediv_of_nonneg (by omega), Int.tmod_eq_emod_of_nonneg (by omega)]
      rw [show (n : Int) / 128 = ((n / 128 : Nat) : Int) by omega, w_i64 (by omega) (by omega), Number_loop k (n / 128) m (by omega) hn' (by omega)]
      simp only [Option.bind_some]
      have hlen := num_len k (n / 128) hn'
      rw [gapp_some (by simp; omega)]
      simp only [Option.bind_some]
      rw [num_ge c, w_i64 (by omega) (by omega), w_u8]
      congr 1
      show _ :: _ = _ :: _
      congr 1
      omega

theorem number_r {n : Nat} (hn : n < 1099511627776) : ref32_Number (n : Int) = some (num n) := by
  unfold ref32_Number
  obtain ⟨m, hm⟩ := FUEL_big 6 (by omega)
  rw [hm]
  exact Number_loop 5 n m (by omega) (by rw [pow6]; omega) hn

def numI (n : Int) : List Int := num n.toNat

theorem numI_s {l : List Int} {n : Int} (h0 : 0 ≤ n) (hn : n < 1099511627776) (hl : l.length ≤ 3000000000) : save_number l n = some (l ++ numI n) := by
  have := number_s (l := l) (n := n.toNat) (by omega) hl
  rwa [show ((n.toNat : Nat) : Int) = n by omega] at this
theorem numI_r {n : Int} (h0 : 0 ≤ n) (hn : n < 1099511627776) : ref32_Number n = some (numI n) := by
  have := number_r (n := n.toNat) (by omega)
  rwa [show ((n.toNat : Nat) : Int) = n by omega] at this
theorem numI_len {n : Int} (hn : n < 1099511627776) : (numI n).length ≤ 6 := num_len 5 _ (by rw [pow6]; omega)
theorem numI_byte (n : Int) : Byte (numI n) := num_byte _

/-- may a deed be saved? -/
def okD (d : api_Deed) : Bool := (decide (d.What ≥ 0)) && ((decide (d.What ≤ 6)) && ((decide (d.N ≥ 0)) && ((decide (d.N ≤ 99999)) && (decide ((d.Raw.size : Int) ≤ 1000)))))

theorem may_eq (d : api_Deed) : save_may d = some (okD d) := rfl

theorem okD_spec {d : api_Deed} : okD d = true ↔ 0 ≤ d.What ∧ d.What ≤ 6 ∧ 0 ≤ d.N ∧ d.N ≤ 99999 ∧ (d.Raw.size : Int) ≤ 1000 := by
  simp [okD]

def w16 (n : Int) : Prop := 0 ≤ n ∧ n < 65536
structure PW (d : api_Deed) : Prop where
  p2 : w16 d.P.a2
  p3 : w16 d.P.a3
  p4 : w16 d.P.a4
  p5 : w16 d.P.a5
  p6 : w16 d.P.a6
  p7 : w16 d.P.a7

def tailB (d : api_Deed) : List Int :=
  if d.What = 0 then numI d.P.a2 ++ numI d.P.a3 ++ numI d.P.a4 ++ numI d.P.a5 ++ numI d.P.a6 ++ numI d.P.a7
  else if d.What = 1 then numI (d.Raw.size : Int) ++ bytesOf d.Raw
  else if d.What = 3 ∨ d.What = 4 then [if d.Back then 1 else 0] else []
def deedB (d : api_Deed) : List Int := numI d.What ++ numI d.N ++ tailB d

theorem Byte.app {l m : List Int} (hl : Byte l) (hm : Byte m) : Byte (l ++ m) := by
  intro b hb
  rcases List.mem_append.1 hb with hb | hb
  · exact hl b hb
  · exact hm b hb

theorem tailB_byte (d : api_Deed) : Byte (tailB d) := by
  unfold tailB
  split
  · exact ((((((numI_byte _).app (numI_byte _)).app (numI_byte _)).app (numI_byte _)).app (numI_byte _)).app (numI_byte _))
  · split
    · exact (numI_byte _).app (bytesOf_byte _)
    · split
      · intro b hb; simp at hb; subst hb; split <;> omega
      · intro b hb; simp at hb

theorem deedB_byte (d : api_Deed) : Byte (deedB d) := ((numI_byte _).app (numI_byte _)).app (tailB_byte d)

theorem tailB_len {d : api_Deed} (h : okD d = true) (p : PW d) : (tailB d).length ≤ 1010 := by
  obtain ⟨h1, h2, h3, h4, h5⟩ := okD_spec.1 h
  obtain ⟨p2, p3, p4, p5, p6, p7⟩ := p
  unfold w16 at *
  unfold tailB
  split
  · have := numI_len (n := d.P.a2) (by omega)
    have := numI_len (n := d.P.a3) (by omega)
    have := numI_len (n := d.P.a4) (by omega)
    have := numI_len (n := d.P.a5) (by omega)
    have := numI_len (n := d.P.a6) (by omega)
    have := numI_len (n := d.P.a7) (by omega)
    simp only [List.length_append]; omega
  · split
    · have := numI_len (n := (d.Raw.size : Int)) (by omega)
      simp only [List.length_append, bytesOf_len]; omega
    · split <;> simp

theorem deedB_len {d : api_Deed} (h : okD d = true) (p : PW d) : (deedB d).length ≤ 1030 := by
  obtain ⟨h1, h2, h3, h4, h5⟩ := okD_spec.1 h
  have := tailB_len h p
  have := numI_len (n := d.What) (by omega)
  have := numI_len (n := d.N) (by omega)
  unfold deedB
  simp only [List.length_append]; omega

theorem of_eq (w : Int) : save_of w = some (if w = 0 then ⟨true, false, false⟩ else if w = 1 then ⟨false, true, false⟩ else if w = 3 ∨ w = 4 then ⟨false, false, true⟩ else ⟨false, false, false⟩) := by
  unfold save_of
  by_cases h0 : w = 0
  · simp [h0]
  · by_cases h1 : w = 1
    · simp [h1]
    · by_cases h3 : w = 3
      · simp [h3]
      · by_cases h4 : w = 4
        · simp [h4]
        · simp [h0, h1, h3, h4]

theorem deed_s {l : List Int} {d : api_Deed} (h : okD d = true) (p : PW d) (hl : l.length ≤ 2000000000) : save_deed l d = some (l ++ deedB d) := by
  obtain ⟨h1, h2, h3, h4, h5⟩ := okD_spec.1 h
  have lW := numI_len (n := d.What) (by omega)
  have lN := numI_len (n := d.N) (by omega)
  unfold save_deed
  rw [numI_s h1 (by omega) (by omega)]
  simp only [Option.bind_some]
  rw [numI_s h3 (by omega) (by simp; omega)]
  simp only [Option.bind_some]
  rw [of_eq]
  simp only [Option.bind_some]
  by_cases c0 : d.What = 0
  · rw [if_pos c0]
    simp only [if_true]
    obtain ⟨p2, p3, p4, p5, p6, p7⟩ := p
    unfold w16 at *
    have q2 := numI_len (n := d.P.a2) (by omega)
    have q3 := numI_len (n := d.P.a3) (by omega)
    have q4 := numI_len (n := d.P.a4) (by omega)
    have q5 := numI_len (n := d.P.a5) (by omega)
    have q6 := numI_len (n := d.P.a6) (by omega)
    have st : ∀ (i x : Int) (l : List Int), gat [d.P.a2, d.P.a3, d.P.a4, d.P.a5, d.P.a6, d.P.a7] i = some x → 0 ≤ x ∧ x < 65536 → l.length ≤ 3000000000 → save_deed_b1 d i l = some (l ++ numI x) := by
      intro i x l hg hx hl
      unfold save_deed_b1
      rw [hg]
      simp only [Option.bind_some]
      rw [w_i64 (by omega) (by omega), numI_s hx.1 (by omega) hl]
      rfl
    rw [show irange 0 ([d.P.a2, d.P.a3, d.P.a4, d.P.a5, d.P.a6, d.P.a7].length : Int) = [0, 1, 2, 3, 4, 5] from rfl]
    simp only [forO]
    rw [st 0 d.P.a2 _ rfl p2 (by simp; omega)]
    simp only [Option.bind_some]
    rw [st 1 d.P.a3 _ rfl p3 (by simp; omega)]
    simp only [Option.bind_some]
    rw [st 2 d.P.a4 _ rfl p4 (by simp; omega)]
    simp only [Option.bind_some]
    rw [st 3 d.P.a5 _ rfl p5 (by simp; omega)]
    simp only [Option.bind_some]
    rw [st 4 d.P.a6 _ rfl p6 (by simp; omega)]
    simp only [Option.bind_some]
    rw [st 5 d.P.a7 _ rfl p7 (by simp; omega)]
    simp only [Option.bind_some]
    simp [deedB, tailB, c0]
  · rw [if_neg c0]
    by_cases c1 : d.What = 1
    · rw [if_pos c1]
      simp only [Bool.false_eq_true, if_false, if_true]
      have q := numI_len (n := (d.Raw.size : Int)) (by omega)
      rw [numI_s (by omega) (by omega) (by simp; omega)]
      simp only [Option.bind_some]
      rw [gapp_some (by simp [bytesOf_len]; omega)]
      simp [deedB, tailB, c1]
    · rw [if_neg c1]
      by_cases c3 : d.What = 3 ∨ d.What = 4
      · rw [if_pos c3]
        simp only [Bool.false_eq_true, if_false, Bool.true_and, if_true]
        cases hb : d.Back with
        | true =>
          simp only [if_true]
          rw [gapp_some (by simp; omega)]
          simp [deedB, tailB, c0, c1, c3, hb]
        | false =>
          simp only [Bool.false_eq_true, if_false]
          rw [gapp_some (by simp; omega)]
          simp [deedB, tailB, c0, c1, c3, hb]
      · rw [if_neg c3]
        simp [deedB, tailB, c0, c1, c3]

theorem deed_r {d : api_Deed} (h : okD d = true) (p : PW d) : ref32_deed d = some (deedB d) := by
  obtain ⟨h1, h2, h3, h4, h5⟩ := okD_spec.1 h
  have lW := numI_len (n := d.What) (by omega)
  have lN := numI_len (n := d.N) (by omega)
  unfold ref32_deed
  rw [numI_r h1 (by omega), numI_r h3 (by omega)]
  simp only [Option.bind_some]
  rw [gapp_some (by omega)]
  simp only [Option.bind_some]
  by_cases c0 : d.What = 0
  · rw [if_pos (by simp [c0])]
    obtain ⟨p2, p3, p4, p5, p6, p7⟩ := p
    unfold w16 at *
    have q2 := numI_len (n := d.P.a2) (by omega)
    have q3 := numI_len (n := d.P.a3) (by omega)
    have q4 := numI_len (n := d.P.a4) (by omega)
    have q5 := numI_len (n := d.P.a5) (by omega)
    have q6 := numI_len (n := d.P.a6) (by omega)
    have q7 := numI_len (n := d.P.a7) (by omega)
    have st : ∀ (i x : Int) (l : List Int), d.P.get i = some x → 0 ≤ x ∧ x < 65536 → l.length ≤ 3000000000 → ref32_deed_b1 d i l = some (l ++ numI x) := by
      intro i x l hg hx hl
      have := numI_len (n := x) (by omega)
      unfold ref32_deed_b1
      rw [hg]
      simp only [Option.bind_some]
      rw [w_i64 (by omega) (by omega), numI_r hx.1 (by omega)]
      simp only [Option.bind_some]
      rw [gapp_some (by omega)]
      rfl
    rw [show irange 2 8 = [2, 3, 4, 5, 6, 7] from rfl]
    simp only [forO]
    rw [st 2 d.P.a2 _ rfl p2 (by simp; omega)]
    simp only [Option.bind_some]
    rw [st 3 d.P.a3 _ rfl p3 (by simp; omega)]
    simp only [Option.bind_some]
    rw [st 4 d.P.a4 _ rfl p4 (by simp; omega)]
    simp only [Option.bind_some]
    rw [st 5 d.P.a5 _ rfl p5 (by simp; omega)]
    simp only [Option.bind_some]
    rw [st 6 d.P.a6 _ rfl p6 (by simp; omega)]
    simp only [Option.bind_some]
    rw [st 7 d.P.a7 _ rfl p7 (by simp; omega)]
    simp only [Option.bind_some]
    simp [deedB, tailB, c0]
  · rw [if_neg (by simp [c0])]
    by_cases c1 : d.What = 1
    · rw [if_pos (by simp [c1])]
      have q := numI_len (n := (d.Raw.size : Int)) (by omega)
      rw [numI_r (by omega) (by omega)]
      simp only [Option.bind_some]
      rw [gapp_some (by simp; omega)]
      simp only [Option.bind_some]
      rw [gapp_some (by simp [bytesOf_len]; omega)]
      simp [deedB, tailB, c1]
    · rw [if_neg (by simp [c1])]
      by_cases c3 : d.What = 3 ∨ d.What = 4
      · have : ((if (d.What == 3) = true then some (d.What == 3) else some (d.What == 4))) = some true := by
          rcases c3 with c | c <;> simp [c]
        rw [this]
        simp only [Option.bind_some, if_true]
        cases hb : d.Back with
        | true =>
          simp only [if_true, Option.bind_some]
          rw [gapp_some (by simp; omega)]
          simp [deedB, tailB, c0, c1, c3, hb]
        | false =>
          simp only [Bool.false_eq_true, if_false, Option.bind_some]
          rw [gapp_some (by simp; omega)]
          simp [deedB, tailB, c0, c1, c3, hb]
      · have h3' : ¬ d.What = 3 := fun e => c3 (.inl e)
        have h4' : ¬ d.What = 4 := fun e => c3 (.inr e)
        have : ((if (d.What == 3) = true then some (d.What == 3) else some (d.What == 4))) = some false := by simp [h3', h4']
        rw [this]
        simp [deedB, tailB, c0, c1, c3]

/-! the check -/

def chkZ (l : List Int) : Int := (forO (save_check_b1 l) (irange 0 (l.length : Int)) 0).getD 0

theorem check_z {l : List Int} (hb : Byte l) (hl : l.length ≤ 4000000000) : forO (save_check_b1 l) (irange 0 (l.length : Int)) 0 = some (chkZ l) ∧ 0 ≤ chkZ l ∧ chkZ l < 65521 := by
  obtain ⟨z, e, h⟩ := forO_list (save_check_b1 l) l (fun _ z => 0 ≤ z ∧ z < 65521) 0 (by omega) (fun i x s hx hs => by
    have hi : i < l.length := (List.getElem?_eq_some_iff.1 hx).1
    have hxb := hb x (List.mem_of_getElem? hx)
    have hp0 : 0 ≤ ((i : Int) + 1) * x := Int.mul_nonneg (by omega) hxb.1
    have hp1 : ((i : Int) + 1) * x ≤ 4000000000 * 256 := Int.mul_le_mul (by omega) (by omega) hxb.1 (by omega)
    refine ⟨(s + ((i : Int) + 1) * x).tmod 65521, ?_, ?_⟩
    · unfold save_check_b1
      rw [gat_nat, hx]
      simp only [Option.bind_some]
      rw [w_i64 (n := x) (by omega) (by omega), w_i64 (n := ((i : Int) + 1) * x) (by omega) (by omega), w_i64 (by omega) (by omega)]
    · rw [Int.tmod_eq_emod_of_nonneg (by omega)]
      exact ⟨Int.emod_nonneg _ (by omega), Int.emod_lt_of_pos _ (by omega)⟩)
  have : chkZ l = z := by unfold chkZ; rw [e]; rfl
  rw [this]
  exact ⟨e, h⟩

def sealB (l : List Int) : List Int := l ++ [chkZ l / 256, chkZ l % 256]

theorem check_s {l : List Int} (hb : Byte l) (hl : l.length ≤ 4000000000) : save_check l = some (sealB l) := by
  obtain ⟨e, h0, h1⟩ := check_z hb hl
  unfold save_check
  rw [e]
  simp only [Option.bind_some]
  rw [gapp_some (by simp; omega), Int.fdiv_eq_ediv_of_nonneg _ (by decide), show (2 : Int) ^ 8 = 256 from rfl, w_u8, w_u8]
  simp only [Option.bind_some]
  unfold sealB
  rw [show chkZ l / 256 % 256 = chkZ l / 256 by omega]

theorem check_r {l : List Int} (hb : Byte l) (hl : l.length ≤ 4000000000) : ((ref03_Check l).bind fun r27 => (ref03_Two r27).bind fun r28 => (gapp l r28)) = some (sealB l) := by
  obtain ⟨e, h0, h1⟩ := check_z hb hl
  unfold ref03_Check
  rw [show ref03_Check_b1 l = save_check_b1 l from rfl, e]
  simp only [Option.bind_some]
  unfold ref03_Two
  simp only [Option.bind_some]
  have ew : IntKind.u16.wrap (chkZ l) = chkZ l := by rw [w_u16]; omega
  rw [ew, Int.tdiv_eq_ediv_of_nonneg (by omega), Int.tmod_eq_emod_of_nonneg (by omega), w_u8, w_u8, w_u16]
  rw [gapp_some (by simp; omega)]
  unfold sealB
  rw [show chkZ l / 256 % 65536 % 256 = chkZ l / 256 by omega, show chkZ l % 256 % 256 = chkZ l % 256 by omega]

theorem sealB_byte {l : List Int} (hb : Byte l) (hl : l.length ≤ 4000000000) : Byte (sealB l) := by
  obtain ⟨e, h0, h1⟩ := check_z hb hl
  refine hb.app fun b h => ?_
  simp at h
  omega

end Go.AM
