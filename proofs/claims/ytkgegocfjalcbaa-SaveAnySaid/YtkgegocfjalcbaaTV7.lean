import Derived.Test.YtkgegocfjalcbaaTV6
/-
  Plain law of Save, part 7: the document's rounds.
-/
set_option linter.unusedVariables false
set_option linter.unusedSimpArgs false
namespace Go.AM
open Go

theorem A8_get {P : A8 Int} {i : Nat} (h : i < 8) : ∃ x, P.get (i : Int) = some x := by
  unfold A8.get
  rw [gat_nat]
  exact ⟨_, List.getElem?_eq_getElem (by show i < 8; exact h)⟩

theorem A8_put {P : A8 Int} {v : Int} {i : Nat} (h : i < 8) : ∃ P', P.put (i : Int) v = some P' ∧ ∀ x ∈ P'.l, x ∈ P.l ∨ x = v := by
  have : i = 0 ∨ i = 1 ∨ i = 2 ∨ i = 3 ∨ i = 4 ∨ i = 5 ∨ i = 6 ∨ i = 7 := by omega
  rcases this with rfl | rfl | rfl | rfl | rfl | rfl | rfl | rfl
  all_goals
    refine ⟨_, rfl, fun x hx => ?_⟩
    simp only [A8.l, List.mem_cons, List.not_mem_nil, or_false] at hx ⊢
    rcases hx with h | h | h | h | h | h | h | h <;> simp [h]

theorem b2_bad {s : ByteArray} {i at_ v : Int} {d : api_Deed} (h : ref32_number s at_ = some (v, -1)) : ref32_Decode_b2 s i (at_, d) = some (.ret (.ret ([], false))) := by
  unfold ref32_Decode_b2
  show ((ref32_number s at_).bind _).bind _ = _
  rw [h]; rfl

theorem b2_good0 {s : ByteArray} {at_ v : Int} {e : Nat} {d : api_Deed} (h : ref32_number s at_ = some (v, (e : Int))) : ref32_Decode_b2 s 0 (at_, d) = some (.next ((e : Int), ⟨v, d.N, d.Back, d.P, d.Raw⟩)) := by
  unfold ref32_Decode_b2
  show ((ref32_number s at_).bind _).bind _ = _
  rw [h]
  simp only [Option.bind_some]
  rw [if_neg (by simp), if_pos (by rfl)]; rfl

theorem b2_good1 {s : ByteArray} {at_ v : Int} {e : Nat} {d : api_Deed} (h : ref32_number s at_ = some (v, (e : Int))) : ref32_Decode_b2 s 1 (at_, d) = some (.next ((e : Int), ⟨d.What, v, d.Back, d.P, d.Raw⟩)) := by
  unfold ref32_Decode_b2
  show ((ref32_number s at_).bind _).bind _ = _
  rw [h]
  simp only [Option.bind_some]
  rw [if_neg (by simp), if_neg (by decide)]; rfl

def zD : api_Deed := ⟨0, 0, false, zP, emptyS⟩

theorem two_any {bs : List Int} (hb : Byte bs) (hl : bs.length ≤ 30000000) {a : Nat} (ha : a ≤ bs.length) : forR (ref32_Decode_b2 (strOfB bs)) (irange 0 2) ((a : Int), zD) = some (.ret (.ret ([], false))) ∨
    ∃ (w n : Int) (e : Nat), forR (ref32_Decode_b2 (strOfB bs)) (irange 0 2) ((a : Int), zD) = some (.done ((e : Int), ⟨w, n, false, zP, emptyS⟩)) ∧ e ≤ bs.length ∧ a < e := by
  rw [show irange 0 2 = [0, 1] from rfl]
  simp only [forR]
  rcases rnum_any hb hl ha with h | ⟨v, e, h, h1, h2, h3, h4⟩
  · rw [b2_bad h]; exact .inl rfl
  · rw [b2_good0 h]
    simp only [Option.bind_some]
    rcases rnum_any hb hl h2 with g | ⟨v2, e2, g, g1, g2, g3, g4⟩
    · rw [b2_bad g]; exact .inl rfl
    · rw [b2_good1 g]; exact .inr ⟨v, v2, e2, rfl, g2, by omega⟩

theorem b3_bad {s : ByteArray} {i at_ v e : Int} {d : api_Deed} (h : ref32_number s at_ = some (v, e)) (hb : e < 0 ∨ v > 65535) : ref32_Decode_b3 s i (at_, d) = some (.ret (.inr (.ret ([], false)))) := by
  unfold ref32_Decode_b3
  show (ref32_number s at_).bind _ = _
  rw [h]
  simp only [Option.bind_some]
  rw [if_pos (by simpa using hb)]

theorem b3_good {s : ByteArray} {i at_ v : Int} {e : Nat} {d : api_Deed} {x : Int} {P' : A8 Int} (h : ref32_number s at_ = some (v, (e : Int))) (hv : v ≤ 65535) (hg : d.P.get i = some x) (hp : d.P.put i (IntKind.u16.wrap v) = some P') : ref32_Decode_b3 s i (at_, d) = some (.next ((e : Int), ⟨d.What, d.N, d.Back, P', d.Raw⟩)) := by
  unfold ref32_Decode_b3
  show (ref32_number s at_).bind _ = _
  rw [h]
  simp only [Option.bind_some]
  rw [if_neg (by simp; omega), hg]
  simp only [Option.bind_some]
  rw [hp]; rfl

theorem six_any {bs : List Int} (hb : Byte bs) (hl : bs.length ≤ 30000000) {a : Nat} {d : api_Deed} (ha : a ≤ bs.length) (hd : ∀ x ∈ d.P.l, w16 x) : forR (ref32_Decode_b3 (strOfB bs)) (irange 2 8) ((a : Int), d) = some (.ret (.inr (.ret ([], false)))) ∨
    ∃ (e : Nat) (d' : api_Deed), forR (ref32_Decode_b3 (strOfB bs)) (irange 2 8) ((a : Int), d) = some (.done ((e : Int), d')) ∧ e ≤ bs.length ∧ (∀ x ∈ d'.P.l, w16 x) := by
  have := forR_map (ref32_Decode_b3 (strOfB bs)) (fun i z => ∃ (e : Nat), z.1 = (e : Int) ∧ e ≤ bs.length ∧ (∀ x ∈ z.2.P.l, w16 x)) (fun _ => False) (fun r => r = .inr (.ret ([], false))) 6 2 ((a : Int), d) ⟨a, rfl, ha, hd⟩ (fun j z h2 h8 hz => by
    obtain ⟨z1, z2⟩ := z
    obtain ⟨e, he, hel, hw⟩ := hz
    simp only at he hw
    subst he
    rcases rnum_any hb hl hel with h | ⟨v, e2, h, k1, k2, k3, k4⟩
    · exact .inr (.inr ⟨_, b3_bad h (.inl (by omega)), rfl⟩)
    · by_cases hv : v > 65535
      · exact .inr (.inr ⟨_, b3_bad h (.inr hv), rfl⟩)
      · obtain ⟨x, hx⟩ := A8_get (P := z2.P) (i := j) (by omega)
        obtain ⟨P', hP, hP2⟩ := A8_put (P := z2.P) (v := IntKind.u16.wrap v) (i := j) (by omega)
        refine .inl ⟨_, b3_good h (by omega) hx hP, e2, rfl, k2, fun y hy => ?_⟩
        rcases hP2 y hy with h | h
        · exact hw y h
        · subst h; rw [w_u16]; exact ⟨by omega, by omega⟩)
  rcases this with ⟨z, e, ⟨e2, h1, h2, h3⟩ | h⟩ | ⟨r, e, rfl⟩
  · right
    obtain ⟨z1, z2⟩ := z
    simp only at h1 h3
    subst h1
    exact ⟨e2, z2, e, h2, h3⟩
  · exact h.elim
  · exact .inl e

theorem PW_mem {d : api_Deed} (h : ∀ x ∈ d.P.l, w16 x) : PW d := by
  constructor <;> exact h _ (by simp [A8.l])

theorem zP_w : ∀ x ∈ zP.l, w16 x := by
  intro x hx; simp [A8.l, zP] at hx; subst hx; exact ⟨by omega, by omega⟩

/-- what a round comes to -/
theorem round_any {bs : List Int} (hb : Byte bs) (hl : bs.length ≤ 30000000) {a : Nat} {acc : List api_Deed} {n e6 : Int} (ha : a ≤ bs.length) (hacc : acc.length ≤ 100000) :
    ref32_Decode_b1 (strOfB bs) (n, e6) ((a : Int), acc) = some (.ret ([], false)) ∨ (ref32_Decode_b1 (strOfB bs) (n, e6) ((a : Int), acc) = some (.brk ((a : Int), acc)) ∧ n ≤ (acc.length : Int)) ∨
    ∃ (e : Nat) (d : api_Deed), ref32_Decode_b1 (strOfB bs) (n, e6) ((a : Int), acc) = some (.next ((e : Int), acc ++ [d])) ∧ e ≤ bs.length ∧ PW d ∧ (acc.length : Int) < n := by
  unfold ref32_Decode_b1
  show ((if _ then _ else _) = _) ∨ ((if _ then _ else _) = _ ∧ _) ∨ _
  by_cases hc : (acc.length : Int) < n
  · simp only [show decide ((acc.length : Int) < (n, e6).1) = true by simpa using hc, if_true]
    rw [show (api_Deed.mk 0 0 false (A8.mk 0 0 0 0 0 0 0 0) (⟨#[]⟩ : ByteArray)) = zD from rfl]
    rcases two_any hb hl ha with h | ⟨w, m, e, h, h1, h2⟩
    · rw [h]; exact .inl rfl
    · rw [h]
      simp only [Option.bind_some]
      by_cases c0 : w = 0
      · simp only [show (w == 0) = true by simpa using c0, if_true]
        rcases six_any hb hl (d := ⟨w, m, false, zP, emptyS⟩) h1 zP_w with g | ⟨e2, d', g, g1, g2⟩
        · rw [g]; exact .inl rfl
        · rw [g]
          simp only [Option.bind_some]
          rw [gapp_some (by simp; omega)]
          exact .inr (.inr ⟨e2, d', rfl, g1, PW_mem g2, hc⟩)
      · simp only [show (w == 0) = false by simpa using c0, Bool.false_eq_true, if_false]
        by_cases c1 : w = 1
        · simp only [show (w == 1) = true by simpa using c1, if_true]
          rcases rnum_any hb hl h1 with g | ⟨v, e2, g, g1, g2, g3, g4⟩
          · rw [g]; exact .inl rfl
          · rw [g]
            simp only [Option.bind_some]
            rw [w_i64 (by omega) (by omega), strOfB_size]
            by_cases hq : ((decide ((e2 : Int) < 0)) || ((decide (v > 1000)) || (decide ((e2 : Int) + v > (bs.length : Int))))) = true
            · simp only [hq, if_true]; exact .inl rfl
            · simp only [hq, Bool.false_eq_true, if_false]
              have hle : (e2 : Int) + v ≤ bs.length := by simp at hq; omega
              have hcut := scut_strOfB bs (a := e2) (b := e2 + v.toNat) (by omega) (by omega)
              rw [show ((e2 + v.toNat : Nat) : Int) = (e2 : Int) + v by omega] at hcut
              rw [hcut]
              simp only [Option.bind_some]
              rw [gapp_some (by simp; omega)]
              refine .inr (.inr ⟨e2 + v.toNat, ⟨w, m, false, zP, strOfB (List.take (e2 + v.toNat - e2) (List.drop e2 bs))⟩, ?_, by omega, PW_zero rfl, hc⟩)
              rw [show ((e2 + v.toNat : Nat) : Int) = (e2 : Int) + v by omega]
              rfl
        · simp only [show (w == 1) = false by simpa using c1, Bool.false_eq_true, if_false]
          by_cases c3 : w = 3 ∨ w = 4
          · have : ((if (w == 3) = true then some (w == 3) else some (w == 4))) = some true := by
              rcases c3 with c | c <;> simp [c]
            rw [this]
            simp only [Option.bind_some, if_true]
            rw [strOfB_size]
            by_cases hq : bs.length ≤ e
            · simp only [show decide ((e : Int) ≥ (bs.length : Int)) = true by simp; omega, if_true, Option.bind_some]
              exact .inl trivial
            · simp only [show decide ((e : Int) ≥ (bs.length : Int)) = false by simp; omega, Bool.false_eq_true, if_false]
              have hx : bs[e]? = some bs[e] := List.getElem?_eq_getElem (by omega)
              rw [bat_strOfB hb hx]
              simp only [Option.bind_some]
              by_cases hq2 : bs[e] > 1
              · simp only [show decide (bs[e] > 1) = true by simpa using hq2, if_true]; exact .inl rfl
              · simp only [show decide (bs[e] > 1) = false by simpa using hq2, Bool.false_eq_true, if_false, Option.bind_some]
                rw [gapp_some (by simp; omega)]
                rw [w_i64 (by omega) (by omega)]
                exact .inr (.inr ⟨e + 1, ⟨w, m, bs[e] == 1, zP, emptyS⟩, rfl, by omega, PW_zero rfl, hc⟩)
          · have h3' : ¬ w = 3 := fun e => c3 (.inl e)
            have h4' : ¬ w = 4 := fun e => c3 (.inr e)
            have : ((if (w == 3) = true then some (w == 3) else some (w == 4))) = some false := by simp [h3', h4']
            rw [this]
            simp only [Option.bind_some, Bool.false_eq_true, if_false]
            rw [gapp_some (by simp; omega)]
            exact .inr (.inr ⟨e, ⟨w, m, false, zP, emptyS⟩, rfl, h1, PW_zero rfl, hc⟩)
  · simp only [show decide ((acc.length : Int) < (n, e6).1) = false by simpa using hc, Bool.false_eq_true, if_false]
    exact .inr (.inl ⟨trivial, by omega⟩)

end Go.AM
