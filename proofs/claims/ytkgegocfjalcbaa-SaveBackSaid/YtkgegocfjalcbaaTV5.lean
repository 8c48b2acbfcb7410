import Derived.Test.YtkgegocfjalcbaaTV4
/-
  Plain law of Save, part 5: what the program decodes is just what is encoded.
-/
set_option linter.unusedVariables false
set_option linter.unusedSimpArgs false
namespace Go.AM
open Go

theorem num_pos (n : Nat) : 0 < (num n).length := by
  by_cases c : n < 128
  · rw [num_lt c]; simp
  · rw [num_ge c]; simp

theorem sealB_take (l : List Int) : (sealB l).take ((sealB l).length - 2) = l := by
  unfold sealB; simp
theorem sealB_len (l : List Int) : (sealB l).length = l.length + 2 := by simp [sealB]

theorem strOfB_nil : strOfB [] = emptyS := rfl
theorem strOfB_empty {l : List Int} (h : strOfB l = emptyS) : l = [] := by
  have := congrArg ByteArray.size h
  rw [strOfB_size] at this
  exact List.eq_nil_of_length_eq_zero this

/-- the head of the way to decode -/
theorem head_eq {bs : List Int} (hb : Byte bs) (hl : bs.length ≤ 30000000) : ((if decide (((strOfB bs).size : Int) < 4) then some true else (bat (strOfB bs) 0).bind fun b2 =>
    (if (b2 != 68) then some true else (scut (strOfB bs) 0 (IntKind.i64.wrap (((strOfB bs).size : Int) - 2))).bind fun s4 =>
    (gs2b s4).bind fun l5 =>
    (save_check l5).bind fun r6 =>
    some (!(seqB (strOfB r6) (strOfB bs)))))) = some (!decide (4 ≤ bs.length ∧ bs[0]? = some 68 ∧ bs = sealB (bs.take (bs.length - 2)))) := by
  rw [strOfB_size]
  by_cases c : bs.length < 4
  · rw [if_pos (by simp; omega)]
    rw [decide_eq_false (by omega)]; rfl
  · rw [if_neg (by simp; omega)]
    obtain ⟨b, bs', rfl⟩ : ∃ b bs', bs = b :: bs' := by
      cases bs with
      | nil => simp at c
      | cons b bs' => exact ⟨b, bs', rfl⟩
    have h0 : bat (strOfB (b :: bs')) 0 = some b := bat_strOfB hb (i := 0) rfl
    rw [h0]
    simp only [Option.bind_some]
    by_cases c2 : b = 68
    · rw [if_neg (by simp [c2])]
      have ht : Byte ((b :: bs').take ((b :: bs').length - 2)) := fun x hx => hb x (List.mem_of_mem_take hx)
      have hc := scut_strOfB (b :: bs') (a := 0) (b := (b :: bs').length - 2) (by omega) (by omega)
      rw [w_i64 (by omega) (by omega), show (((b :: bs').length : Nat) : Int) - 2 = (((b :: bs').length - 2 : Nat) : Int) by omega]
      rw [show (((0 : Nat) : Nat) : Int) = 0 from rfl, Nat.sub_zero, List.drop_zero] at hc
      rw [hc]
      simp only [Option.bind_some]
      rw [gs2b_strOfB ht (by rw [List.length_take]; omega)]
      simp only [Option.bind_some]
      rw [check_s ht (by rw [List.length_take]; omega)]
      simp only [Option.bind_some]
      rw [seqB_strOfB (sealB_byte ht (by rw [List.length_take]; omega)) hb]
      congr 2
      rw [decide_eq_decide]
      constructor
      · intro h; exact ⟨by omega, by simp [c2], h.symm⟩
      · intro h; exact h.2.2.symm
    · rw [if_pos (by simp [c2])]
      rw [decide_eq_false (by rintro ⟨_, h, _⟩; simp at h; exact c2 h)]; rfl

theorem tail_cut {bs : List Int} (h4 : 4 ≤ bs.length) (hl : bs.length ≤ 30000000) : scut (strOfB bs) 1 (IntKind.i64.wrap (((strOfB bs).size : Int) - 2)) = some (strOfB ((bs.take (bs.length - 2)).drop 1)) := by
  rw [strOfB_size, w_i64 (by omega) (by omega), show ((bs.length : Nat) : Int) - 2 = ((bs.length - 2 : Nat) : Int) by omega]
  have := scut_strOfB bs (a := 1) (b := bs.length - 2) (by omega) (by omega)
  rw [show (((1 : Nat) : Nat) : Int) = 1 from rfl] at this
  rw [this, List.drop_take]

theorem dec_p_ok {l : List api_Deed} (hl : l.length ≤ 10000) (hg : ∀ d ∈ l, Good d) : save_Decode (encB l) = some (l, 0) := by
  have hlen := bodyB_len hl fun d hd => ⟨(hg d hd).1, (hg d hd).2.1⟩
  have hbb := bodyB_byte l
  have hsb := sealB_byte hbb (by omega)
  have hpos : 2 ≤ (bodyB l).length := by
    have := num_pos ((l.length : Int)).toNat
    unfold bodyB numI; simp only [List.length_append, List.length_cons, List.length_nil]; omega
  unfold save_Decode encB
  rw [head_eq hsb (by rw [sealB_len]; omega)]
  simp only [Option.bind_some]
  rw [decide_eq_true ⟨by rw [sealB_len]; omega, by unfold sealB bodyB; simp, by rw [sealB_take]⟩]
  simp only [Bool.not_true, Bool.false_eq_true, if_false]
  rw [tail_cut (by rw [sealB_len]; omega) (by rw [sealB_len]; omega), sealB_take]
  simp only [Option.bind_some]
  rw [show (bodyB l).drop 1 = numI (l.length : Int) ++ (flatB l ++ []) by simp [bodyB]]
  have hn : save_reader_number ⟨strOfB (numI (l.length : Int) ++ (flatB l ++ [])), false⟩ 10000 = some ((l.length : Int), ⟨strOfB (flatB l ++ []), false⟩) := number_ok _ ((flatB_byte l).app (fun b hb => by simp at hb)) (by omega) (by omega) (by omega)
  rw [hn]
  simp only [Option.bind_some]
  obtain ⟨m, hm⟩ := FUEL_big (l.length + 1) (by omega)
  rw [hm, ← Nat.add_assoc, dec_good [] (fun b hb => by simp at hb) l m [] (by simp; omega) hg]
  simp [strOfB_nil, seqB_eq, emptyS]

theorem dec_p_any (s : ByteArray) (hs : s.size ≤ 30000000) : ∃ l e, save_Decode s = some (l, e) ∧ ((e = 0 ∧ l.length ≤ 10000 ∧ (∀ d ∈ l, Good d) ∧ s = encB l) ∨ (e = 30 ∧ l = [])) := by
  obtain ⟨bs, hb, rfl⟩ : ∃ bs, Byte bs ∧ s = strOfB bs := ⟨bytesOf s, bytesOf_byte s, (strOfB_bytesOf s).symm⟩
  rw [strOfB_size] at hs
  unfold save_Decode
  rw [head_eq hb hs]
  simp only [Option.bind_some]
  by_cases hc : 4 ≤ bs.length ∧ bs[0]? = some 68 ∧ bs = sealB (bs.take (bs.length - 2))
  · rw [decide_eq_true hc]
    simp only [Bool.not_true, Bool.false_eq_true, if_false]
    obtain ⟨h4, h68, hseal⟩ := hc
    rw [tail_cut h4 hs]
    simp only [Option.bind_some]
    have hB : Byte ((bs.take (bs.length - 2)).drop 1) := fun x hx => hb x (List.mem_of_mem_take (List.mem_of_mem_drop hx))
    obtain ⟨v, rest, bad, e1, b1, p1, q1⟩ := number_any hB false 10000
    rw [e1]
    simp only [Option.bind_some]
    cases bad with
    | true =>
      obtain ⟨m, hm⟩ := FUEL_big 1 (by omega)
      rw [hm, dec_stop m (.inr rfl)]
      exact ⟨[], 30, rfl, .inr ⟨rfl, rfl⟩⟩
    | false =>
      obtain ⟨_, le1, r1⟩ := q1 rfl
      obtain ⟨m, hm⟩ := FUEL_big (v.toNat + 1) (by omega)
      obtain ⟨l', n', bs', bad', e2, b2, q2⟩ := dec_any v.toNat m [] rest (by simp; omega) b1
      rw [show ((v.toNat : Nat) : Int) = v by omega] at e2
      rw [hm, ← Nat.add_assoc, e2]
      simp only [Option.bind_some]
      cases bad' with
      | true => exact ⟨[], 30, by simp, .inr ⟨rfl, rfl⟩⟩
      | false =>
        rw [seqB_eq]
        by_cases he : strOfB bs' = (⟨#[]⟩ : ByteArray)
        · rw [if_neg (by simp [he])]
          obtain ⟨t, t1, t2, t3, t4⟩ := q2 rfl
          have hbs' := strOfB_empty he
          subst hbs'
          simp only [List.nil_append] at t1
          subst t1
          refine ⟨l', 0, rfl, .inl ⟨rfl, by omega, t4, ?_⟩⟩
          unfold encB
          congr 1
          have hbody : bs.take (bs.length - 2) = bodyB l' := by
            have hd : bs.take (bs.length - 2) = 68 :: (bs.take (bs.length - 2)).drop 1 := by
              cases bs with
              | nil => simp at h4
              | cons b bs' =>
                simp at h68
                subst h68
                have : (68 :: bs').length - 2 = (bs'.length - 2) + 1 := by simp at h4 ⊢; omega
                rw [this]; simp
            rw [hd, r1, t3]
            unfold bodyB
            rw [show ((l'.length : Nat) : Int) = v by omega]
            simp
          exact hseal.trans (by rw [hbody])
        · exact ⟨[], 30, by rw [if_pos (by simp [he])], .inr ⟨rfl, rfl⟩⟩
  · rw [decide_eq_false hc]
    exact ⟨[], 30, by simp, .inr ⟨rfl, rfl⟩⟩

end Go.AM
