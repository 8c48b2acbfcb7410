import Derived.Test.YtkgegocfjalcbaaTV3
/-
  Plain law of Save, part 4: deeds, and all that the program decodes.
-/
set_option linter.unusedVariables false
set_option linter.unusedSimpArgs false
namespace Go.AM
open Go

def zP : A8 Int := ⟨0, 0, 0, 0, 0, 0, 0, 0⟩
/-- nothing is there but what a deed's bytes tell -/
structure Cl (d : api_Deed) : Prop where
  p0 : d.P.a0 = 0
  p1 : d.P.a1 = 0
  p : d.What ≠ 0 → d.P = zP
  raw : d.What ≠ 1 → d.Raw = emptyS
  back : ¬ (d.What = 3 ∨ d.What = 4) → d.Back = false

theorem PW_zero {d : api_Deed} (h : d.P = zP) : PW d := by
  constructor <;> rw [h] <;> exact ⟨by decide, by decide⟩

theorem numI_0 : numI 0 = [0] := by unfold numI; rw [num_lt (by decide)]; rfl
theorem numI_1 : numI 1 = [1] := by unfold numI; rw [num_lt (by decide)]; rfl

theorem dstep {r : save_reader} {v : Int} {r' : save_reader} {i : Int} {d : api_Deed} {x : Int} {P' : A8 Int} (h : save_reader_number r 65535 = some (v, r')) (hg : d.P.get i = some x) (hp : d.P.put i (IntKind.u16.wrap v) = some P') :
    save_reader_deed_b1 i (r, d) = some (r', ⟨d.What, d.N, d.Back, P', d.Raw⟩) := by
  unfold save_reader_deed_b1
  show (save_reader_number r 65535).bind _ = _
  rw [h]
  simp only [Option.bind_some]
  rw [hg]
  simp only [Option.bind_some]
  rw [hp]
  rfl

theorem deed_any {bs : List Int} (hb : Byte bs) : ∃ d rest bad, save_reader_deed ⟨strOfB bs, false⟩ = some (d, ⟨strOfB rest, bad⟩) ∧ Byte rest ∧ (bad = false → okD d = true ∧ PW d ∧ Cl d ∧ bs = deedB d ++ rest) := by
  obtain ⟨v1, s1, bad1, e1, b1, p1, q1⟩ := number_any hb false 6
  obtain ⟨v2, s2, bad2, e2, b2, p2, q2⟩ := number_any b1 bad1 99999
  unfold save_reader_deed
  rw [e1]
  simp only [Option.bind_some]
  rw [e2]
  simp only [Option.bind_some]
  rw [of_eq]
  simp only [Option.bind_some]
  cases bad2 with
  | true => exact ⟨_, s2, true, rfl, b2, fun h => by cases h⟩
  | false =>
    obtain ⟨rfl, le2, r2⟩ := q2 rfl
    obtain ⟨_, le1, r1⟩ := q1 rfl
    simp only [Bool.false_eq_true, if_false]
    by_cases c0 : v1 = 0
    · rw [if_pos c0]
      simp only [if_true]
      obtain ⟨x2, t2, bd2, f2, g2, h2, k2⟩ := number_any b2 false 65535
      obtain ⟨x3, t3, bd3, f3, g3, h3, k3⟩ := number_any g2 bd2 65535
      obtain ⟨x4, t4, bd4, f4, g4, h4, k4⟩ := number_any g3 bd3 65535
      obtain ⟨x5, t5, bd5, f5, g5, h5, k5⟩ := number_any g4 bd4 65535
      obtain ⟨x6, t6, bd6, f6, g6, h6, k6⟩ := number_any g5 bd5 65535
      obtain ⟨x7, t7, bd7, f7, g7, h7, k7⟩ := number_any g6 bd6 65535
      rw [show irange 2 8 = [2, 3, 4, 5, 6, 7] from rfl]
      simp only [forO]
      rw [dstep (x := 0) (P' := ⟨0, 0, IntKind.u16.wrap x2, 0, 0, 0, 0, 0⟩) f2 rfl rfl]
      simp only [Option.bind_some]
      rw [dstep (x := 0) (P' := ⟨0, 0, IntKind.u16.wrap x2, IntKind.u16.wrap x3, 0, 0, 0, 0⟩) f3 rfl rfl]
      simp only [Option.bind_some]
      rw [dstep (x := 0) (P' := ⟨0, 0, IntKind.u16.wrap x2, IntKind.u16.wrap x3, IntKind.u16.wrap x4, 0, 0, 0⟩) f4 rfl rfl]
      simp only [Option.bind_some]
      rw [dstep (x := 0) (P' := ⟨0, 0, IntKind.u16.wrap x2, IntKind.u16.wrap x3, IntKind.u16.wrap x4, IntKind.u16.wrap x5, 0, 0⟩) f5 rfl rfl]
      simp only [Option.bind_some]
      rw [dstep (x := 0) (P' := ⟨0, 0, IntKind.u16.wrap x2, IntKind.u16.wrap x3, IntKind.u16.wrap x4, IntKind.u16.wrap x5, IntKind.u16.wrap x6, 0⟩) f6 rfl rfl]
      simp only [Option.bind_some]
      rw [dstep (x := 0) (P' := ⟨0, 0, IntKind.u16.wrap x2, IntKind.u16.wrap x3, IntKind.u16.wrap x4, IntKind.u16.wrap x5, IntKind.u16.wrap x6, IntKind.u16.wrap x7⟩) f7 rfl rfl]
      simp only [Option.bind_some]
      refine ⟨_, t7, bd7, rfl, g7, fun hbad => ?_⟩
      obtain ⟨m6, l7, z7⟩ := k7 hbad
      obtain ⟨m5, l6, z6⟩ := k6 m6
      obtain ⟨m4, l5, z5⟩ := k5 m5
      obtain ⟨m3, l4, z4⟩ := k4 m4
      obtain ⟨m2, l3, z3⟩ := k3 m3
      obtain ⟨_, l2, z2⟩ := k2 m2
      have w : ∀ x : Int, 0 ≤ x → x ≤ 65535 → IntKind.u16.wrap x = x := fun x a b => by rw [w_u16]; omega
      rw [w x2 h2 l2, w x3 h3 l3, w x4 h4 l4, w x5 h5 l5, w x6 h6 l6, w x7 h7 l7]
      subst c0
      refine ⟨okD_spec.2 ⟨by simp, by simp, p2, le2, by simp [ByteArray.size]⟩, ⟨?_, ?_, ?_, ?_, ?_, ?_⟩, ⟨rfl, rfl, fun h => (h rfl).elim, fun _ => rfl, fun _ => rfl⟩, ?_⟩
      · exact ⟨h2, by show x2 < 65536; omega⟩
      · exact ⟨h3, by show x3 < 65536; omega⟩
      · exact ⟨h4, by show x4 < 65536; omega⟩
      · exact ⟨h5, by show x5 < 65536; omega⟩
      · exact ⟨h6, by show x6 < 65536; omega⟩
      · exact ⟨h7, by show x7 < 65536; omega⟩
      · rw [r1, r2, z2, z3, z4, z5, z6, z7]
        simp [deedB, tailB]
    · rw [if_neg c0]
      by_cases c1 : v1 = 1
      · rw [if_pos c1]
        simp only [Bool.false_eq_true, if_false, if_true]
        obtain ⟨v3, s3, bad3, e3, b3, p3, q3⟩ := number_any b2 false 1000
        rw [e3]
        simp only [Option.bind_some]
        obtain ⟨x, s4, bad4, e4, b4, q4⟩ := take_any s3 bad3 v3.toNat
        rw [show ((v3.toNat : Nat) : Int) = v3 by omega] at e4
        rw [e4]
        simp only [Option.bind_some]
        refine ⟨_, s4, bad4, rfl, fun y hy => b3 y (b4 y hy), fun hbad => ?_⟩
        obtain ⟨hb3, a, ha, hl, hx⟩ := q4 hbad
        obtain ⟨_, le3, r3⟩ := q3 hb3
        subst c1
        have hab : Byte a := fun y hy => b3 y (by rw [ha]; simp [hy])
        refine ⟨okD_spec.2 ⟨by simp, by simp, p2, le2, ?_⟩, PW_zero rfl, ⟨rfl, rfl, fun _ => rfl, fun h => (h rfl).elim, fun _ => rfl⟩, ?_⟩
        · show ((x.size : Nat) : Int) ≤ 1000
          rw [hx, strOfB_size]; omega
        · rw [r1, r2, r3, ha]
          simp only [deedB, tailB]
          rw [if_neg (by decide), if_pos trivial]
          have : ((x.size : Nat) : Int) = v3 := by rw [hx, strOfB_size]; omega
          rw [this, hx, bytesOf_strOfB hab]
          simp
      · rw [if_neg c1]
        by_cases c3 : v1 = 3 ∨ v1 = 4
        · rw [if_pos c3]
          simp only [Bool.false_eq_true, if_false, if_true]
          obtain ⟨v3, s3, bad3, e3, b3, p3, q3⟩ := number_any b2 false 1
          rw [e3]
          simp only [Option.bind_some]
          refine ⟨_, s3, bad3, rfl, b3, fun hbad => ?_⟩
          obtain ⟨_, le3, r3⟩ := q3 hbad
          refine ⟨okD_spec.2 ⟨p1, le1, p2, le2, by simp [ByteArray.size]⟩, PW_zero rfl, ⟨rfl, rfl, fun _ => rfl, fun _ => rfl, fun h => (h c3).elim⟩, ?_⟩
          rw [r1, r2, r3]
          simp only [deedB, tailB]
          rw [if_neg c0, if_neg c1, if_pos c3]
          have : v3 = 0 ∨ v3 = 1 := by omega
          rcases this with rfl | rfl
          · simp [numI_0]
          · simp [numI_1]
        · rw [if_neg c3]
          simp only [Bool.false_eq_true, if_false]
          refine ⟨_, s2, false, rfl, b2, fun _ => ⟨okD_spec.2 ⟨p1, le1, p2, le2, by simp [ByteArray.size]⟩, PW_zero rfl, ⟨rfl, rfl, fun _ => rfl, fun _ => rfl, fun _ => rfl⟩, ?_⟩⟩
          rw [r1, r2]
          simp [deedB, tailB, c0, c1, c3]

theorem deed_ok {d : api_Deed} {rest : List Int} (ho : okD d = true) (hp : PW d) (hc : Cl d) (hr : Byte rest) : save_reader_deed ⟨strOfB (deedB d ++ rest), false⟩ = some (d, ⟨strOfB rest, false⟩) := by
  obtain ⟨h1, h2, h3, h4, h5⟩ := okD_spec.1 ho
  obtain ⟨w, n, back, ⟨a0, a1, a2, a3, a4, a5, a6, a7⟩, raw⟩ := d
  obtain ⟨z0, z1, zp, zr, zb⟩ := hc
  obtain ⟨p2, p3, p4, p5, p6, p7⟩ := hp
  simp only at h1 h2 h3 h4 h5 z0 z1 zp zr zb p2 p3 p4 p5 p6 p7
  unfold w16 at *
  subst z0; subst z1
  unfold save_reader_deed
  have ht := tailB_byte ⟨w, n, back, ⟨0, 0, a2, a3, a4, a5, a6, a7⟩, raw⟩
  have e : deedB ⟨w, n, back, ⟨0, 0, a2, a3, a4, a5, a6, a7⟩, raw⟩ ++ rest = numI w ++ (numI n ++ (tailB ⟨w, n, back, ⟨0, 0, a2, a3, a4, a5, a6, a7⟩, raw⟩ ++ rest)) := by simp [deedB]
  rw [e, number_ok _ ((numI_byte n).app (ht.app hr)) h1 h2 (by omega)]
  simp only [Option.bind_some]
  rw [number_ok _ (ht.app hr) h3 h4 (by omega)]
  simp only [Option.bind_some]
  rw [of_eq]
  simp only [Option.bind_some, Bool.false_eq_true, if_false]
  by_cases c0 : w = 0
  · rw [if_pos c0]
    simp only [if_true]
    subst c0
    obtain rfl := zr (by decide)
    obtain rfl := zb (by decide)
    have et : tailB ⟨0, n, false, ⟨0, 0, a2, a3, a4, a5, a6, a7⟩, emptyS⟩ ++ rest = numI a2 ++ (numI a3 ++ (numI a4 ++ (numI a5 ++ (numI a6 ++ (numI a7 ++ rest))))) := by simp [tailB]
    have wr : ∀ x : Int, 0 ≤ x ∧ x < 65536 → IntKind.u16.wrap x = x := fun x a => by rw [w_u16]; omega
    have b7 := (numI_byte a7).app hr
    have b6 := (numI_byte a6).app b7
    have b5 := (numI_byte a5).app b6
    have b4 := (numI_byte a4).app b5
    have b3 := (numI_byte a3).app b4
    rw [et, show irange 2 8 = [2, 3, 4, 5, 6, 7] from rfl]
    simp only [forO]
    rw [dstep (x := 0) (P' := ⟨0, 0, a2, 0, 0, 0, 0, 0⟩) (number_ok _ b3 p2.1 (by omega) (by omega)) rfl (by rw [wr a2 p2]; rfl)]
    simp only [Option.bind_some]
    rw [dstep (x := 0) (P' := ⟨0, 0, a2, a3, 0, 0, 0, 0⟩) (number_ok _ b4 p3.1 (by omega) (by omega)) rfl (by rw [wr a3 p3]; rfl)]
    simp only [Option.bind_some]
    rw [dstep (x := 0) (P' := ⟨0, 0, a2, a3, a4, 0, 0, 0⟩) (number_ok _ b5 p4.1 (by omega) (by omega)) rfl (by rw [wr a4 p4]; rfl)]
    simp only [Option.bind_some]
    rw [dstep (x := 0) (P' := ⟨0, 0, a2, a3, a4, a5, 0, 0⟩) (number_ok _ b6 p5.1 (by omega) (by omega)) rfl (by rw [wr a5 p5]; rfl)]
    simp only [Option.bind_some]
    rw [dstep (x := 0) (P' := ⟨0, 0, a2, a3, a4, a5, a6, 0⟩) (number_ok _ b7 p6.1 (by omega) (by omega)) rfl (by rw [wr a6 p6]; rfl)]
    simp only [Option.bind_some]
    rw [dstep (x := 0) (P' := ⟨0, 0, a2, a3, a4, a5, a6, a7⟩) (number_ok _ hr p7.1 (by omega) (by omega)) rfl (by rw [wr a7 p7]; rfl)]
    rfl
  · rw [if_neg c0]
    have hP := zp c0
    simp only [zP, A8.mk.injEq] at hP
    obtain ⟨_, _, rfl, rfl, rfl, rfl, rfl, rfl⟩ := hP
    by_cases c1 : w = 1
    · rw [if_pos c1]
      subst c1
      obtain rfl := zb (by decide)
      simp only [Bool.false_eq_true, if_false, if_true]
      have et : tailB ⟨1, n, false, ⟨0, 0, 0, 0, 0, 0, 0, 0⟩, raw⟩ ++ rest = numI (raw.size : Int) ++ (bytesOf raw ++ rest) := by simp [tailB]
      rw [et, number_ok _ ((bytesOf_byte raw).app hr) (by omega) (by omega) (by omega)]
      simp only [Option.bind_some]
      rw [take_ok (by rw [bytesOf_len]), strOfB_bytesOf]
      rfl
    · rw [if_neg c1]
      obtain rfl := zr c1
      by_cases c3 : w = 3 ∨ w = 4
      · rw [if_pos c3]
        simp only [Bool.false_eq_true, if_false, if_true]
        have et : tailB ⟨w, n, back, ⟨0, 0, 0, 0, 0, 0, 0, 0⟩, emptyS⟩ ++ rest = numI (if back then 1 else 0) ++ rest := by
          cases back <;> simp [tailB, c0, c1, c3, numI_0, numI_1]
        rw [et, number_ok _ hr (by split <;> omega) (by split <;> omega) (by omega)]
        cases back <;> rfl
      · rw [if_neg c3]
        obtain rfl := zb c3
        have et : tailB ⟨w, n, false, ⟨0, 0, 0, 0, 0, 0, 0, 0⟩, emptyS⟩ = [] := by simp [tailB, c0, c1, c3]
        rw [et]
        rfl

/-! lists of deeds -/

def Good (d : api_Deed) : Prop := okD d = true ∧ PW d ∧ Cl d

theorem dec_stop {l : List api_Deed} {n : Int} {r : save_reader} (m : Nat) (h : n ≤ 0 ∨ r.bad = true) : whK save_Decode_b1 (m + 1) (l, n, r) = some (l, n, r) := by
  simp only [whK]
  have : save_Decode_b1 (l, n, r) = some (.inr (l, n, r)) := by
    unfold save_Decode_b1
    show (if _ then _ else _) = _
    rw [if_neg]
    simp only [Bool.and_eq_true, decide_eq_true_eq, Bool.not_eq_true', not_and, Bool.not_eq_false]
    intro hn
    rcases h with h | h
    · omega
    · exact h
  rw [this]; rfl

theorem dec_round {l : List api_Deed} {n : Nat} {bs rest : List Int} {d : api_Deed} {bad : Bool} (m : Nat) (hl : l.length ≤ 100000) (hn : n ≤ 100000) (h : save_reader_deed ⟨strOfB bs, false⟩ = some (d, ⟨strOfB rest, bad⟩)) :
    whK save_Decode_b1 (m + 1) (l, ((n + 1 : Nat) : Int), ⟨strOfB bs, false⟩) = whK save_Decode_b1 m (l ++ [d], (n : Int), ⟨strOfB rest, bad⟩) := by
  simp only [whK]
  have : save_Decode_b1 (l, ((n + 1 : Nat) : Int), ⟨strOfB bs, false⟩) = some (.inl (l ++ [d], (n : Int), ⟨strOfB rest, bad⟩)) := by
    unfold save_Decode_b1
    show (if _ then _ else _) = _
    rw [if_pos (by simp), h]
    simp only [Option.bind_some]
    rw [gapp_some (by simp; omega)]
    simp only [Option.bind_some]
    rw [w_i64 (by omega) (by omega), show ((n + 1 : Nat) : Int) - 1 = (n : Int) by omega]
  rw [this]; rfl

theorem dec_any : ∀ (k m : Nat) (l : List api_Deed) (bs : List Int), l.length + k ≤ 10000 → Byte bs → ∃ l' n' bs' bad', whK save_Decode_b1 (m + k + 1) (l, (k : Int), ⟨strOfB bs, false⟩) = some (l', n', ⟨strOfB bs', bad'⟩) ∧ Byte bs' ∧
    (bad' = false → ∃ t, l' = l ++ t ∧ t.length = k ∧ bs = flatB t ++ bs' ∧ ∀ d ∈ t, Good d)
  | 0, m, l, bs, hl, hb => ⟨l, 0, bs, false, dec_stop _ (.inl (by omega)), hb, fun _ => ⟨[], by simp, rfl, by simp [flatB], fun d h => by simp at h⟩⟩
  | k + 1, m, l, bs, hl, hb => by
    obtain ⟨d, rest, bad, e, br, hd⟩ := deed_any hb
    rw [show m + (k + 1) + 1 = (m + k + 1) + 1 by omega, dec_round _ (by omega) (by omega) e]
    cases bad with
    | true => exact ⟨_, _, rest, true, dec_stop _ (.inr rfl), br, fun h => by cases h⟩
    | false =>
      obtain ⟨h1, h2, h3, h4⟩ := hd rfl
      obtain ⟨l', n', bs', bad', e', b', h'⟩ := dec_any k m (l ++ [d]) rest (by simp; omega) br
      refine ⟨l', n', bs', bad', e', b', fun hbad => ?_⟩
      obtain ⟨t, t1, t2, t3, t4⟩ := h' hbad
      refine ⟨d :: t, by rw [t1]; simp, by simp [t2], by rw [h4, t3]; simp [flatB], fun x hx => ?_⟩
      rcases List.mem_cons.1 hx with rfl | hx
      · exact ⟨h1, h2, h3⟩
      · exact t4 x hx

theorem dec_good (rest : List Int) (hr : Byte rest) : ∀ (t : List api_Deed) (m : Nat) (l : List api_Deed), l.length + t.length ≤ 10000 → (∀ d ∈ t, Good d) →
    whK save_Decode_b1 (m + t.length + 1) (l, (t.length : Int), ⟨strOfB (flatB t ++ rest), false⟩) = some (l ++ t, 0, ⟨strOfB rest, false⟩)
  | [], m, l, hl, h => by
    have := dec_stop (l := l) (n := 0) (r := ⟨strOfB rest, false⟩) m (.inl (by omega))
    simpa [flatB] using this
  | d :: t, m, l, hl, h => by
    obtain ⟨h1, h2, h3⟩ := h d (by simp)
    have hb : Byte (flatB t ++ rest) := (flatB_byte t).app hr
    have e := deed_ok h1 h2 h3 hb
    simp only [List.length_cons] at hl ⊢
    rw [show m + (t.length + 1) + 1 = (m + t.length + 1) + 1 by omega, show flatB (d :: t) ++ rest = deedB d ++ (flatB t ++ rest) by simp [flatB], dec_round _ (by omega) (by omega) e,
      dec_good rest hr t m (l ++ [d]) (by simp; omega) fun x hx => h x (by simp [hx])]
    simp

end Go.AM
