import Derived.Test.YtkgegocfjalcbaaTV8
/-
  Plain law of Save, part 9: SaveAny, SaveMade, SaveBack.
-/
set_option linter.unusedVariables false
set_option linter.unusedSimpArgs false
namespace Go.AM
open Go

theorem loop_any {bs : List Int} (hb : Byte bs) (hl : bs.length ≤ 30000000) {n e6 : Int} (hn : n ≤ 10000) : ∀ (k m a : Nat) (acc : List api_Deed), (acc.length : Int) + k ≥ n → acc.length + k ≤ 10000 → a ≤ bs.length → (∀ d ∈ acc, PW d) →
    ∃ q, whR (ref32_Decode_b1 (strOfB bs) (n, e6)) (m + k + 1) ((a : Int), acc) = some q ∧ (q = .ret ([], false) ∨ ∃ (e : Int) (l : List api_Deed), q = .done (e, l) ∧ l.length ≤ 10000 ∧ ∀ d ∈ l, PW d)
  | 0, m, a, acc, hk, hk2, ha, hp => by
    rw [show m + 0 + 1 = m + 1 from rfl, whR_succ]
    rcases round_any (n := n) (e6 := e6) hb hl ha (acc := acc) (by omega) with h | ⟨h, _⟩ | ⟨e, d, h, _, _, hc⟩
    · rw [h]; exact ⟨_, rfl, .inl rfl⟩
    · rw [h]; exact ⟨_, rfl, .inr ⟨_, _, rfl, by omega, hp⟩⟩
    · exfalso; omega
  | k + 1, m, a, acc, hk, hk2, ha, hp => by
    rw [show m + (k + 1) + 1 = (m + k + 1) + 1 by omega, whR_succ]
    rcases round_any (n := n) (e6 := e6) hb hl ha (acc := acc) (by omega) with h | ⟨h, _⟩ | ⟨e, d, h, he, hd, hc⟩
    · rw [h]; exact ⟨_, rfl, .inl rfl⟩
    · rw [h]; exact ⟨_, rfl, .inr ⟨_, _, rfl, by omega, hp⟩⟩
    · rw [h]
      exact loop_any hb hl hn k m e (acc ++ [d]) (by simp; omega) (by simp; omega) he fun x hx => by
        rcases List.mem_append.1 hx with hx | hx
        · exact hp x hx
        · simp at hx; subst hx; exact hd

theorem loop_ok {X : List Int} (hb : Byte X) (hl : X.length ≤ 30000000) (post : List Int) {n e6 : Int} : ∀ (t : List api_Deed) (m : Nat) (pre : List Int) (acc : List api_Deed), X = pre ++ (flatB t ++ post) → ((acc.length + t.length : Nat) : Int) = n → acc.length + t.length ≤ 10000 → (∀ d ∈ t, Good d) →
    ∃ e, whR (ref32_Decode_b1 (strOfB X) (n, e6)) (m + t.length + 1) ((pre.length : Int), acc) = some (.done (e, acc ++ t))
  | [], m, pre, acc, hX, hn, hn2, hg => by
    rw [show m + ([] : List api_Deed).length + 1 = m + 1 from rfl, whR_succ]
    have : ref32_Decode_b1 (strOfB X) (n, e6) ((pre.length : Int), acc) = some (.brk ((pre.length : Int), acc)) := by
      unfold ref32_Decode_b1
      show (if _ then _ else _) = _
      rw [if_neg (by simp at hn ⊢; omega)]
    rw [this]
    exact ⟨(pre.length : Int), by simp⟩
  | d :: t, m, pre, acc, hX, hn, hn2, hg => by
    simp only [List.length_cons] at hn hn2 ⊢
    rw [show m + (t.length + 1) + 1 = (m + t.length + 1) + 1 by omega, whR_succ]
    have hX' : X = pre ++ (deedB d ++ (flatB t ++ post)) := by rw [hX]; simp [flatB]
    rw [round_ok (n := n) (e6 := e6) hX' hb hl (hg d (by simp)) (by omega) (by omega)]
    obtain ⟨e, h⟩ := loop_ok hb hl post (n := n) (e6 := e6) t m (pre ++ deedB d) (acc ++ [d]) (by rw [hX']; simp) (by simp; omega) (by simp; omega) fun x hx => hg x (by simp [hx])
    refine ⟨e, ?_⟩
    simp only [Option.bind_some]
    rw [show ((pre.length + (deedB d).length : Nat) : Int) = ((pre ++ deedB d).length : Int) by simp, h]
    simp

theorem head_r {bs : List Int} (hb : Byte bs) : ((if decide (((strOfB bs).size : Int) < 4) then some true else (bat (strOfB bs) 0).bind fun b2 => some (b2 != 68))) = some (!decide (4 ≤ bs.length ∧ bs[0]? = some 68)) := by
  rw [strOfB_size]
  by_cases c : bs.length < 4
  · rw [if_pos (by simp; omega), decide_eq_false (by omega)]; rfl
  · rw [if_neg (by simp; omega)]
    obtain ⟨b, bs', rfl⟩ : ∃ b bs', bs = b :: bs' := by
      cases bs with
      | nil => simp at c
      | cons b bs' => exact ⟨b, bs', rfl⟩
    have h0 : bat (strOfB (b :: bs')) 0 = some b := bat_strOfB hb (i := 0) rfl
    rw [h0]
    simp only [Option.bind_some]
    by_cases c2 : b = 68
    · rw [decide_eq_true ⟨by omega, by simp [c2]⟩]; simp [c2]
    · rw [decide_eq_false (by rintro ⟨_, h⟩; simp at h; exact c2 h)]; simp [c2]

theorem ref_any (s : ByteArray) (hs : s.size ≤ 30000000) : ∃ m ok, ref32_Decode s = some (m, ok) ∧ ((ok = false ∧ m = []) ∨ (ok = true ∧ m.length ≤ 10000 ∧ (∀ d ∈ m, okD d = true ∧ PW d) ∧ s = encB m)) := by
  obtain ⟨bs, hb, rfl⟩ : ∃ bs, Byte bs ∧ s = strOfB bs := ⟨bytesOf s, bytesOf_byte s, (strOfB_bytesOf s).symm⟩
  rw [strOfB_size] at hs
  unfold ref32_Decode
  rw [head_r hb]
  simp only [Option.bind_some]
  by_cases hc : 4 ≤ bs.length ∧ bs[0]? = some 68
  · rw [decide_eq_true hc]
    simp only [Bool.not_true, Bool.false_eq_true, if_false]
    rcases rnum_any hb hs (a := 1) (by omega) with h | ⟨v, e, h, h1, h2, h3, h4⟩
    · rw [show (((1 : Nat) : Nat) : Int) = 1 from rfl] at h
      rw [h]; exact ⟨[], false, rfl, .inl ⟨rfl, rfl⟩⟩
    · rw [show (((1 : Nat) : Nat) : Int) = 1 from rfl] at h
      rw [h]
      simp only [Option.bind_some]
      by_cases hv : v > 10000
      · rw [if_pos (by simp; omega)]; exact ⟨[], false, rfl, .inl ⟨rfl, rfl⟩⟩
      · rw [if_neg (by simp; omega)]
        obtain ⟨m, hm⟩ := FUEL_big (v.toNat + 1) (by omega)
        obtain ⟨q, hq, hq2⟩ := loop_any hb hs (n := v) (e6 := (e : Int)) (by omega) v.toNat m e [] (by simp; omega) (by simp; omega) h2 (fun d hd => by simp at hd)
        rw [hm, ← Nat.add_assoc, hq]
        simp only [Option.bind_some]
        rcases hq2 with rfl | ⟨e2, l, rfl, hl, hp⟩
        · exact ⟨[], false, rfl, .inl ⟨rfl, rfl⟩⟩
        · simp only
          rw [enc_r hl hp]
          simp only [Option.bind_some]
          by_cases hall : ∀ d ∈ l, okD d = true
          · simp only [if_pos hall]
            rw [seqB_eq]
            by_cases he : encB l = strOfB bs
            · rw [if_neg (by simp [he])]
              exact ⟨l, true, rfl, .inr ⟨rfl, hl, fun d hd => ⟨hall d hd, hp d hd⟩, he.symm⟩⟩
            · rw [if_pos (by simp [he])]; exact ⟨[], false, rfl, .inl ⟨rfl, rfl⟩⟩
          · simp only [if_neg hall]
            rw [if_pos (by simp)]; exact ⟨[], false, rfl, .inl ⟨rfl, rfl⟩⟩
  · rw [decide_eq_false hc]
    exact ⟨[], false, by simp, .inl ⟨rfl, rfl⟩⟩

theorem ref_ok {l : List api_Deed} (hl : l.length ≤ 10000) (hg : ∀ d ∈ l, Good d) : ref32_Decode (encB l) = some (l, true) := by
  have hlen := bodyB_len hl fun d hd => ⟨(hg d hd).1, (hg d hd).2.1⟩
  have hbb := bodyB_byte l
  have hsb := sealB_byte hbb (by omega)
  have hpos : 2 ≤ (bodyB l).length := by
    have := num_pos ((l.length : Int)).toNat
    unfold bodyB numI; simp only [List.length_append, List.length_cons, List.length_nil]; omega
  have hsl : (sealB (bodyB l)).length ≤ 30000000 := by rw [sealB_len]; omega
  unfold ref32_Decode encB
  rw [head_r hsb]
  simp only [Option.bind_some]
  rw [decide_eq_true ⟨by rw [sealB_len]; omega, by unfold sealB bodyB; simp⟩]
  simp only [Bool.not_true, Bool.false_eq_true, if_false]
  have hX : sealB (bodyB l) = [68] ++ (numI (l.length : Int) ++ (flatB l ++ [chkZ (bodyB l) / 256, chkZ (bodyB l) % 256])) := by
    conv => lhs; unfold sealB
    rw [show bodyB l ++ _ = ([68] ++ numI (l.length : Int) ++ flatB l) ++ [chkZ (bodyB l) / 256, chkZ (bodyB l) % 256] from rfl]
    simp
  have hn := rnum_at (p := 1) hX rfl hsb hsl (by omega) (by omega)
  rw [show (((1 : Nat) : Nat) : Int) = 1 from rfl] at hn
  rw [hn]
  simp only [Option.bind_some]
  rw [if_neg (by simp; omega)]
  obtain ⟨m, hm⟩ := FUEL_big (l.length + 1) (by omega)
  obtain ⟨e, h⟩ := loop_ok hsb hsl [chkZ (bodyB l) / 256, chkZ (bodyB l) % 256] (n := (l.length : Int)) (e6 := ((1 + (numI (l.length : Int)).length : Nat) : Int)) l m ([68] ++ numI (l.length : Int)) [] (by rw [hX]; simp) (by simp) (by simp; omega) hg
  have hq : ([68] ++ numI (l.length : Int)).length = 1 + (numI (l.length : Int)).length := by simp; omega
  rw [hq] at h
  rw [hm, ← Nat.add_assoc, h]
  simp only [Option.bind_some, List.nil_append]
  rw [enc_r hl fun d hd => (hg d hd).2.1, if_pos fun d hd => (hg d hd).1]
  simp only [Option.bind_some]
  rw [seqB_eq, if_neg (by simp [encB])]

theorem same_refl (l : List api_Deed) : ref32_Same l l = some true := by
  unfold ref32_Same
  rw [if_neg (by simp)]
  rcases forR_list (ref32_Same_b1 l l) l (fun _ _ => True) (fun _ => False) (fun _ => False) () trivial (fun i x s hx _ => by
    refine .inl ⟨(), ?_, trivial⟩
    unfold ref32_Same_b1
    rw [gat_nat, hx]
    simp) with ⟨s, e, _⟩ | ⟨r, _, h⟩
  · rw [e]; rfl
  · exact h.elim

/-! without what isn't told -/

def cleanD (d : api_Deed) : api_Deed :=
  ⟨d.What, d.N, if d.What = 3 ∨ d.What = 4 then d.Back else false, if d.What = 0 then ⟨0, 0, d.P.a2, d.P.a3, d.P.a4, d.P.a5, d.P.a6, d.P.a7⟩ else zP, if d.What = 1 then d.Raw else emptyS⟩

theorem cleanD_good {d : api_Deed} (h : okD d = true) (p : PW d) : Good (cleanD d) := by
  obtain ⟨h1, h2, h3, h4, h5⟩ := okD_spec.1 h
  refine ⟨okD_spec.2 ⟨h1, h2, h3, h4, ?_⟩, ?_, ?_, ?_, ?_, ?_, ?_⟩
  · show ((if d.What = 1 then d.Raw else emptyS).size : Int) ≤ 1000
    split
    · exact h5
    · simp [emptyS, ByteArray.size]
  · by_cases c : d.What = 0
    · have : (cleanD d).P = ⟨0, 0, d.P.a2, d.P.a3, d.P.a4, d.P.a5, d.P.a6, d.P.a7⟩ := by simp [cleanD, c]
      constructor <;> rw [this]
      · exact p.p2
      · exact p.p3
      · exact p.p4
      · exact p.p5
      · exact p.p6
      · exact p.p7
    · exact PW_zero (by simp [cleanD, c])
  · simp only [cleanD]; split <;> rfl
  · simp only [cleanD]; split <;> rfl
  · intro c; simp only [cleanD] at c ⊢; rw [if_neg c]
  · intro c; simp only [cleanD] at c ⊢; rw [if_neg c]
  · intro c; simp only [cleanD] at c ⊢; rw [if_neg c]

theorem cleanD_deedB (d : api_Deed) : deedB (cleanD d) = deedB d := by
  unfold deedB tailB cleanD
  simp only
  by_cases c0 : d.What = 0
  · simp [c0]
  · by_cases c1 : d.What = 1
    · simp [c1]
    · by_cases c3 : d.What = 3 ∨ d.What = 4
      · simp only [c0, c1, if_false, if_pos c3]
      · simp only [c0, c1, if_false, if_neg c3]

theorem clean_encB (l : List api_Deed) : encB (l.map cleanD) = encB l := by
  have : flatB (l.map cleanD) = flatB l := by
    induction l with
    | nil => rfl
    | cons d l ih => simp only [flatB, List.map_cons, List.flatMap_cons, cleanD_deedB] at ih ⊢; rw [ih]
  unfold encB bodyB
  rw [this, List.length_map]

/-- both ways to decode are one -/
theorem both (s : ByteArray) (hs : s.size ≤ 30000000) : ∃ l e m ok, save_Decode s = some (l, e) ∧ ref32_Decode s = some (m, ok) ∧ (e == 0) = ok ∧ ref32_Same l m = some true ∧ (ok = false → e = 30) := by
  obtain ⟨l, e, h, hc⟩ := dec_p_any s hs
  rcases hc with ⟨rfl, hl, hg, hse⟩ | ⟨rfl, rfl⟩
  · refine ⟨l, 0, l, true, h, ?_, rfl, same_refl l, fun h => by cases h⟩
    rw [hse]; exact ref_ok hl hg
  · obtain ⟨m, ok, h', hc'⟩ := ref_any s hs
    rcases hc' with ⟨rfl, rfl⟩ | ⟨rfl, hl, hg, hse⟩
    · exact ⟨[], 30, [], false, h, h', rfl, same_refl [], fun _ => rfl⟩
    · exfalso
      have := dec_p_ok (l := m.map cleanD) (by simpa using hl) (fun d hd => by
        obtain ⟨x, hx, rfl⟩ := List.mem_map.1 hd
        exact cleanD_good (hg x hx).1 (hg x hx).2)
      rw [clean_encB, ← hse, h] at this
      have := (Prod.mk.inj (Option.some.inj this)).2
      cases this

theorem awake32 : law32_awake = some true := by
  have hg : ∀ d ∈ ([(api_Deed.mk 0 300 false (A8.mk 0 0 1 0 0 0 0 0) (⟨#[]⟩ : ByteArray)), (api_Deed.mk 3 0 true (A8.mk 0 0 0 0 0 0 0 0) (⟨#[]⟩ : ByteArray))] : List api_Deed), Good d := by
    intro d hd
    simp only [List.mem_cons, List.not_mem_nil, or_false] at hd
    rcases hd with rfl | rfl
    · exact ⟨by decide, ⟨⟨by decide, by decide⟩, ⟨by decide, by decide⟩, ⟨by decide, by decide⟩, ⟨by decide, by decide⟩, ⟨by decide, by decide⟩, ⟨by decide, by decide⟩⟩, ⟨rfl, rfl, fun h => (h rfl).elim, fun _ => rfl, fun _ => rfl⟩⟩
    · exact ⟨by decide, ⟨⟨by decide, by decide⟩, ⟨by decide, by decide⟩, ⟨by decide, by decide⟩, ⟨by decide, by decide⟩, ⟨by decide, by decide⟩, ⟨by decide, by decide⟩⟩, ⟨rfl, rfl, fun _ => rfl, fun _ => rfl, fun h => (h (.inl rfl)).elim⟩⟩
  unfold law32_awake
  rw [enc_s (by decide) fun d hd => (hg d hd).2.1, if_pos fun d hd => (hg d hd).1]
  simp only [Option.bind_some]
  rw [dec_p_ok (by decide) hg]
  simp only [Option.bind_some]
  rw [same_refl]
  simp only [beq_self_eq_true, if_true, Option.bind_some]
  have : (encB ([(api_Deed.mk 0 300 false (A8.mk 0 0 1 0 0 0 0 0) (⟨#[]⟩ : ByteArray)), (api_Deed.mk 3 0 true (A8.mk 0 0 0 0 0 0 0 0) (⟨#[]⟩ : ByteArray))] : List api_Deed)).size = 16 := by
    unfold encB
    rw [strOfB_size, sealB_len]
    have n0 := numI_0
    have n1 := numI_1
    have n3 : numI 3 = [3] := by unfold numI; rw [num_lt (by decide)]; rfl
    have n2 : numI 2 = [2] := by unfold numI; rw [num_lt (by decide)]; rfl
    have n300 : numI 300 = [172, 2] := by
      unfold numI; rw [num_ge (by decide), show Int.toNat 300 / 128 = 2 from rfl, num_lt (by decide)]; rfl
    simp [bodyB, flatB, deedB, tailB, n0, n1, n2, n3, n300]
  rw [this]; rfl

theorem law_any (s : ByteArray) : law32_SaveAny s = some true := by
  unfold law32_SaveAny
  rw [awake32]
  simp only [Option.bind_some, Bool.not_true, Bool.false_eq_true, if_false]
  split
  · rfl
  rename_i hs
  obtain ⟨l, e, m, ok, h1, h2, h3, h4, h5⟩ := both s (by simp at hs; omega)
  rw [h1, h2]
  simp only [Option.bind_some]
  rw [if_pos (by simp [h3]), h4]
  simp only [Option.bind_some, if_true]
  cases ok with
  | true => rfl
  | false => simp [h5 rfl]

theorem law_made (s : ByteArray) : law32_SaveMade s = some true := by
  unfold law32_SaveMade
  rw [awake32]
  simp only [Option.bind_some, Bool.not_true, Bool.false_eq_true, if_false]
  split
  · rfl
  rename_i hs
  have hs' : s.size ≤ 300 := by simp at hs; omega
  rw [gapp_some (by simp [bytesOf_len]; omega)]
  simp only [Option.bind_some]
  have hb : Byte ([68] ++ bytesOf s) := Byte.app (fun b hb => by simp at hb; omega) (bytesOf_byte s)
  have hlen : ([68] ++ bytesOf s).length ≤ 400 := by simp [bytesOf_len]; omega
  have hc := check_r hb (by omega)
  obtain ⟨a, ha, hc⟩ := bindE hc
  obtain ⟨b, hb2, hc⟩ := bindE hc
  rw [ha]; simp only [Option.bind_some]
  rw [hb2]; simp only [Option.bind_some]
  rw [hc]
  simp only [Option.bind_some]
  obtain ⟨l, e, m, ok, h1, h2, h3, h4, h5⟩ := both (strOfB (sealB ([68] ++ bytesOf s))) (by rw [strOfB_size, sealB_len]; omega)
  rw [h1, h2]
  simp only [Option.bind_some]
  rw [if_pos (by simp [h3]), h4]
  rfl

theorem clean_s (d : api_Deed) : save_Clean d = some (cleanD d) := by
  unfold save_Clean
  rw [of_eq]
  simp only [Option.bind_some]
  obtain ⟨w, n, back, ⟨a0, a1, a2, a3, a4, a5, a6, a7⟩, raw⟩ := d
  unfold packet_To cleanD zP emptyS
  by_cases c0 : w = 0
  · subst c0
    cases back <;> rfl
  · by_cases c1 : w = 1
    · subst c1
      cases back <;> rfl
    · by_cases c3 : w = 3 ∨ w = 4
      · simp only [c0, c1, if_false, if_pos c3]
        cases back <;> rfl
      · simp only [c0, c1, if_false, if_neg c3]
        cases back <;> rfl

theorem clean_r (d : api_Deed) : ref32_Clean d = some (cleanD d) := by
  unfold ref32_Clean
  obtain ⟨w, n, back, ⟨a0, a1, a2, a3, a4, a5, a6, a7⟩, raw⟩ := d
  unfold cleanD zP emptyS
  by_cases c0 : w = 0
  · subst c0
    rfl
  · by_cases c1 : w = 1
    · subst c1
      rfl
    · by_cases c3 : w = 3 ∨ w = 4
      · rcases c3 with rfl | rfl <;> rfl
      · have h3' : ¬ w = 3 := fun e => c3 (.inl e)
        have h4' : ¬ w = 4 := fun e => c3 (.inr e)
        simp [c0, c1, c3, h3', h4']

theorem law_back {l : List api_Deed} (hw : ∀ d ∈ l, PW d) : law32_SaveBack l = some true := by
  unfold law32_SaveBack
  rw [awake32]
  simp only [Option.bind_some, Bool.not_true, Bool.false_eq_true, if_false]
  split
  · rfl
  rename_i hs
  have hl : l.length ≤ 100 := by simp at hs; omega
  rcases forR_list (law32_SaveBack_b1 l) l (fun t z => z = t.map cleanD) (fun _ => False) (fun r => r = true) [] rfl (fun i x z hx hz => by
    have hi := (List.getElem?_eq_some_iff.1 hx).1
    by_cases hr : (x.Raw.size : Int) > 1100
    · refine .inr (.inr ⟨true, ?_, rfl⟩)
      unfold law32_SaveBack_b1
      rw [gat_nat, hx]
      simp only [Option.bind_some]
      rw [if_pos (by simpa using hr)]
    · refine .inl ⟨(l.take i).map cleanD ++ [cleanD x], ?_, by simp⟩
      unfold law32_SaveBack_b1
      rw [gat_nat, hx]
      simp only [Option.bind_some]
      rw [if_neg (by simpa using hr), clean_s, clean_r]
      simp only [Option.bind_some]
      rw [if_neg (by simp), hz, gapp_some (by simp; omega)]
      rfl) with ⟨z, e, h | h⟩ | ⟨r, e, rfl⟩
  · rw [e]
    simp only [Option.bind_some]
    rw [enc_s (by omega) hw, enc_r (by omega) hw]
    simp only [Option.bind_some]
    rw [if_neg (by simp [seqB_eq])]
    by_cases hall : ∀ d ∈ l, okD d = true
    · simp only [if_pos hall]
      rw [if_neg (by simp), ← clean_encB, dec_p_ok (by simp; omega) (fun d hd => by
        obtain ⟨x, hx, rfl⟩ := List.mem_map.1 hd
        exact cleanD_good (hall x hx) (hw x hx))]
      simp only [Option.bind_some, beq_self_eq_true, if_true]
      rw [h, same_refl]
      rfl
    · simp only [if_neg hall]
      rw [if_pos (by simp), seqB_eq]
      simp [emptyS]
  · exact h.elim
  · rw [e]; rfl

end Go.AM
