import Derived.Test.YtkgegocfjalcbaaTV7
/-
  Plain law of Save, part 8: what the document decodes; the laws of any bytes.
-/
set_option linter.unusedVariables false
set_option linter.unusedSimpArgs false
namespace Go.AM
open Go

/-- a number at a place of a longer list -/
theorem rnum_at {X pre post : List Int} {v : Int} {p : Nat} (hX : X = pre ++ (numI v ++ post)) (hp : p = pre.length) (hb : Byte X) (hl : X.length ≤ 30000000) (h0 : 0 ≤ v) (h1 : v ≤ 99999) :
    ref32_number (strOfB X) (p : Int) = some (v, ((p + (numI v).length : Nat) : Int)) := by
  subst hX; subst hp
  rw [← List.append_assoc] at *
  exact rnum_ok hb hl h0 h1

theorem round_ok {X pre post : List Int} {d : api_Deed} {acc : List api_Deed} {n e6 : Int} (hX : X = pre ++ (deedB d ++ post)) (hb : Byte X) (hl : X.length ≤ 30000000) (hg : Good d) (hc : (acc.length : Int) < n) (hacc : acc.length ≤ 100000) :
    ref32_Decode_b1 (strOfB X) (n, e6) ((pre.length : Int), acc) = some (.next (((pre.length + (deedB d).length : Nat) : Int), acc ++ [d])) := by
  obtain ⟨ho, hp, hcl⟩ := hg
  obtain ⟨h1, h2, h3, h4, h5⟩ := okD_spec.1 ho
  obtain ⟨w, m, back, ⟨a0, a1, a2, a3, a4, a5, a6, a7⟩, raw⟩ := d
  obtain ⟨z0, z1, zp, zr, zb⟩ := hcl
  obtain ⟨p2, p3, p4, p5, p6, p7⟩ := hp
  simp only at h1 h2 h3 h4 h5 z0 z1 zp zr zb p2 p3 p4 p5 p6 p7
  unfold w16 at *
  subst z0; subst z1
  unfold ref32_Decode_b1
  show (if _ then _ else _) = _
  simp only [show decide ((acc.length : Int) < (n, e6).1) = true by simpa using hc, if_true]
  rw [show (api_Deed.mk 0 0 false (A8.mk 0 0 0 0 0 0 0 0) (⟨#[]⟩ : ByteArray)) = zD from rfl]
  have eX : X = pre ++ (numI w ++ (numI m ++ (tailB ⟨w, m, back, ⟨0, 0, a2, a3, a4, a5, a6, a7⟩, raw⟩ ++ post))) := by rw [hX]; simp [deedB]
  have n1 := rnum_at eX rfl hb hl h1 (by omega)
  have n2 := rnum_at (X := X) (pre := pre ++ numI w) (p := pre.length + (numI w).length) (post := tailB ⟨w, m, back, ⟨0, 0, a2, a3, a4, a5, a6, a7⟩, raw⟩ ++ post) (by rw [eX]; simp) (by simp) hb hl h3 h4
  have dl : (deedB ⟨w, m, back, ⟨0, 0, a2, a3, a4, a5, a6, a7⟩, raw⟩).length = (numI w).length + (numI m).length + (tailB ⟨w, m, back, ⟨0, 0, a2, a3, a4, a5, a6, a7⟩, raw⟩).length := by simp [deedB, Nat.add_assoc]
  have two : forR (ref32_Decode_b2 (strOfB X)) (irange 0 2) ((pre.length : Int), zD) = some (.done (((pre.length + (numI w).length + (numI m).length : Nat) : Int), ⟨w, m, false, zP, emptyS⟩)) := by
    rw [show irange 0 2 = [0, 1] from rfl]
    simp only [forR]
    rw [b2_good0 n1]
    simp only [Option.bind_some]
    rw [b2_good1 n2]
    rfl
  rw [two]
  simp only [Option.bind_some]
  rw [dl]
  by_cases c0 : w = 0
  · subst c0
    obtain rfl := zr (by decide)
    obtain rfl := zb (by decide)
    simp only [beq_self_eq_true, if_true]
    have et : tailB ⟨0, m, false, ⟨0, 0, a2, a3, a4, a5, a6, a7⟩, emptyS⟩ = numI a2 ++ numI a3 ++ numI a4 ++ numI a5 ++ numI a6 ++ numI a7 := by simp [tailB]
    rw [et] at eX ⊢
    have wr : ∀ x : Int, 0 ≤ x ∧ x < 65536 → IntKind.u16.wrap x = x := fun x a => by rw [w_u16]; omega
    have k2 := rnum_at (X := X) (pre := pre ++ numI 0 ++ numI m) (p := pre.length + (numI 0).length + (numI m).length) (v := a2) (post := numI a3 ++ numI a4 ++ numI a5 ++ numI a6 ++ numI a7 ++ post) (by rw [eX]; simp) (by simp; omega) hb hl p2.1 (by omega)
    have k3 := rnum_at (X := X) (pre := pre ++ numI 0 ++ numI m ++ numI a2) (p := pre.length + (numI 0).length + (numI m).length + (numI a2).length) (v := a3) (post := numI a4 ++ numI a5 ++ numI a6 ++ numI a7 ++ post) (by rw [eX]; simp) (by simp; omega) hb hl p3.1 (by omega)
    have k4 := rnum_at (X := X) (pre := pre ++ numI 0 ++ numI m ++ numI a2 ++ numI a3) (p := pre.length + (numI 0).length + (numI m).length + (numI a2).length + (numI a3).length) (v := a4) (post := numI a5 ++ numI a6 ++ numI a7 ++ post) (by rw [eX]; simp) (by simp; omega) hb hl p4.1 (by omega)
    have k5 := rnum_at (X := X) (pre := pre ++ numI 0 ++ numI m ++ numI a2 ++ numI a3 ++ numI a4) (p := pre.length + (numI 0).length + (numI m).length + (numI a2).length + (numI a3).length + (numI a4).length) (v := a5) (post := numI a6 ++ numI a7 ++ post) (by rw [eX]; simp) (by simp; omega) hb hl p5.1 (by omega)
    have k6 := rnum_at (X := X) (pre := pre ++ numI 0 ++ numI m ++ numI a2 ++ numI a3 ++ numI a4 ++ numI a5) (p := pre.length + (numI 0).length + (numI m).length + (numI a2).length + (numI a3).length + (numI a4).length + (numI a5).length) (v := a6) (post := numI a7 ++ post) (by rw [eX]; simp) (by simp; omega) hb hl p6.1 (by omega)
    have k7 := rnum_at (X := X) (pre := pre ++ numI 0 ++ numI m ++ numI a2 ++ numI a3 ++ numI a4 ++ numI a5 ++ numI a6) (p := pre.length + (numI 0).length + (numI m).length + (numI a2).length + (numI a3).length + (numI a4).length + (numI a5).length + (numI a6).length) (v := a7) (post := post) (by rw [eX]; simp) (by simp; omega) hb hl p7.1 (by omega)
    rw [show irange 2 8 = [2, 3, 4, 5, 6, 7] from rfl]
    simp only [forR]
    rw [b3_good (x := 0) (P' := ⟨0, 0, a2, 0, 0, 0, 0, 0⟩) k2 (by omega) rfl (by rw [wr a2 p2]; rfl)]
    simp only [Option.bind_some]
    rw [b3_good (x := 0) (P' := ⟨0, 0, a2, a3, 0, 0, 0, 0⟩) k3 (by omega) rfl (by rw [wr a3 p3]; rfl)]
    simp only [Option.bind_some]
    rw [b3_good (x := 0) (P' := ⟨0, 0, a2, a3, a4, 0, 0, 0⟩) k4 (by omega) rfl (by rw [wr a4 p4]; rfl)]
    simp only [Option.bind_some]
    rw [b3_good (x := 0) (P' := ⟨0, 0, a2, a3, a4, a5, 0, 0⟩) k5 (by omega) rfl (by rw [wr a5 p5]; rfl)]
    simp only [Option.bind_some]
    rw [b3_good (x := 0) (P' := ⟨0, 0, a2, a3, a4, a5, a6, 0⟩) k6 (by omega) rfl (by rw [wr a6 p6]; rfl)]
    simp only [Option.bind_some]
    rw [b3_good (x := 0) (P' := ⟨0, 0, a2, a3, a4, a5, a6, a7⟩) k7 (by omega) rfl (by rw [wr a7 p7]; rfl)]
    simp only [Option.bind_some]
    rw [gapp_some (by simp; omega)]
    simp only [Option.bind_some, List.length_append]
    congr 3
    omega
  · simp only [show (w == 0) = false by simpa using c0, Bool.false_eq_true, if_false]
    have hP := zp c0
    simp only [zP, A8.mk.injEq] at hP
    obtain ⟨_, _, rfl, rfl, rfl, rfl, rfl, rfl⟩ := hP
    by_cases c1 : w = 1
    · subst c1
      obtain rfl := zb (by decide)
      simp only [beq_self_eq_true, if_true]
      have et : tailB ⟨1, m, false, ⟨0, 0, 0, 0, 0, 0, 0, 0⟩, raw⟩ = numI (raw.size : Int) ++ bytesOf raw := by simp [tailB]
      rw [et] at eX ⊢
      have k2 := rnum_at (X := X) (pre := pre ++ numI 1 ++ numI m) (p := pre.length + (numI 1).length + (numI m).length) (v := (raw.size : Int)) (post := bytesOf raw ++ post) (by rw [eX]; simp) (by simp; omega) hb hl (by omega) (by omega)
      rw [k2]
      simp only [Option.bind_some]
      have hXl : pre.length + (numI 1).length + (numI m).length + (numI (raw.size : Int)).length + raw.size ≤ X.length := by
        rw [eX]; simp only [List.length_append, bytesOf_len]; omega
      rw [w_i64 (by omega) (by omega), strOfB_size]
      have hq : ((decide (((pre.length + (numI 1).length + (numI m).length + (numI (raw.size : Int)).length : Nat) : Int) < 0)) || ((decide ((raw.size : Int) > 1000)) || (decide (((pre.length + (numI 1).length + (numI m).length + (numI (raw.size : Int)).length : Nat) : Int) + (raw.size : Int) > (X.length : Int))))) = false := by simp; omega
      simp only [hq, Bool.false_eq_true, if_false]
      have hcut := scut_strOfB X (a := pre.length + (numI 1).length + (numI m).length + (numI (raw.size : Int)).length) (b := pre.length + (numI 1).length + (numI m).length + (numI (raw.size : Int)).length + raw.size) (by omega) (by omega)
      have hdt : (X.drop (pre.length + (numI 1).length + (numI m).length + (numI (raw.size : Int)).length)).take (pre.length + (numI 1).length + (numI m).length + (numI (raw.size : Int)).length + raw.size - (pre.length + (numI 1).length + (numI m).length + (numI (raw.size : Int)).length)) = bytesOf raw := by
        have : X = (pre ++ numI 1 ++ numI m ++ numI (raw.size : Int)) ++ (bytesOf raw ++ post) := by rw [eX]; simp
        rw [this, List.drop_left' (by simp [Nat.add_assoc]), List.take_left' (by rw [bytesOf_len]; omega)]
      rw [hdt, strOfB_bytesOf] at hcut
      rw [show (((pre.length + (numI 1).length + (numI m).length + (numI (raw.size : Int)).length : Nat) : Int) + (raw.size : Int)) = ((pre.length + (numI 1).length + (numI m).length + (numI (raw.size : Int)).length + raw.size : Nat) : Int) by omega, hcut]
      simp only [Option.bind_some]
      rw [gapp_some (by simp; omega)]
      simp only [Option.bind_some, List.length_append, bytesOf_len]
      congr 3
      omega
    · simp only [show (w == 1) = false by simpa using c1, Bool.false_eq_true, if_false]
      obtain rfl := zr c1
      by_cases c3 : w = 3 ∨ w = 4
      · have : ((if (w == 3) = true then some (w == 3) else some (w == 4))) = some true := by
          rcases c3 with c | c <;> simp [c]
        rw [this]
        simp only [Option.bind_some, if_true]
        have et : tailB ⟨w, m, back, ⟨0, 0, 0, 0, 0, 0, 0, 0⟩, emptyS⟩ = [if back then 1 else 0] := by simp [tailB, c0, c1, c3]
        rw [et] at eX ⊢
        have hXl : pre.length + (numI w).length + (numI m).length < X.length := by
          rw [eX]; simp; omega
        have hx : X[pre.length + (numI w).length + (numI m).length]? = some (if back then 1 else 0) := by
          have : X = (pre ++ numI w ++ numI m) ++ ((if back then 1 else 0) :: post) := by rw [eX]; simp
          rw [this, List.getElem?_append_right (by simp; omega)]
          simp [Nat.add_assoc]
        rw [strOfB_size]
        simp only [show decide (((pre.length + (numI w).length + (numI m).length : Nat) : Int) ≥ (X.length : Int)) = false by simp; omega, Bool.false_eq_true, if_false]
        rw [bat_strOfB hb hx]
        simp only [Option.bind_some]
        have hsm : decide ((if back then (1 : Int) else 0) > 1) = false := by cases back <;> rfl
        simp only [hsm, Bool.false_eq_true, if_false, Option.bind_some]
        rw [gapp_some (by simp; omega), w_i64 (by omega) (by omega)]
        have eb : ((if back then (1 : Int) else 0) == 1) = back := by cases back <;> rfl
        simp only [Option.bind_some, eb, List.length_cons, List.length_nil]
        congr 3
        omega
      · have h3' : ¬ w = 3 := fun e => c3 (.inl e)
        have h4' : ¬ w = 4 := fun e => c3 (.inr e)
        have : ((if (w == 3) = true then some (w == 3) else some (w == 4))) = some false := by simp [h3', h4']
        rw [this]
        simp only [Option.bind_some, Bool.false_eq_true, if_false]
        obtain rfl := zb c3
        have et : tailB ⟨w, m, false, ⟨0, 0, 0, 0, 0, 0, 0, 0⟩, emptyS⟩ = [] := by simp [tailB, c0, c1, c3]
        rw [et, gapp_some (by simp; omega)]
        simp only [Option.bind_some, List.length_nil, Nat.add_zero]
        congr 3
        omega

end Go.AM
