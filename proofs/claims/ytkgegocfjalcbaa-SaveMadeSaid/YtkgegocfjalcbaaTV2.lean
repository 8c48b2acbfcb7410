import Derived.Test.YtkgegocfjalcbaaTV1
/-
  Plain law of Save, part 2: both ways to encode are one.
-/
set_option linter.unusedVariables false
set_option linter.unusedSimpArgs false
namespace Go.AM
open Go

def flatB (l : List api_Deed) : List Int := l.flatMap deedB
def bodyB (l : List api_Deed) : List Int := [68] ++ numI (l.length : Int) ++ flatB l
def encB (l : List api_Deed) : ByteArray := strOfB (sealB (bodyB l))
def emptyS : ByteArray := ⟨#[]⟩

theorem flatB_app (l : List api_Deed) (d : api_Deed) : flatB (l ++ [d]) = flatB l ++ deedB d := by simp [flatB]
theorem flatB_len : ∀ {l : List api_Deed}, (∀ d ∈ l, okD d = true ∧ PW d) → (flatB l).length ≤ 1030 * l.length
  | [], _ => by simp [flatB]
  | d :: l, h => by
    have h1 := deedB_len (h d (by simp)).1 (h d (by simp)).2
    have h2 := flatB_len (l := l) fun x hx => h x (by simp [hx])
    have e : (flatB (d :: l)).length = (deedB d).length + (flatB l).length := by simp [flatB]
    rw [e]; simp; omega
theorem flatB_byte (l : List api_Deed) : Byte (flatB l) := by
  intro b hb
  obtain ⟨d, _, hb⟩ := List.mem_flatMap.1 hb
  exact deedB_byte d b hb
theorem bodyB_byte (l : List api_Deed) : Byte (bodyB l) := by
  refine (Byte.app ?_ (numI_byte _)).app (flatB_byte l)
  intro b hb; simp at hb; omega
theorem bodyB_len {l : List api_Deed} (hl : l.length ≤ 10000) (h : ∀ d ∈ l, okD d = true ∧ PW d) : (bodyB l).length ≤ 20000000 := by
  have := flatB_len h
  have := numI_len (n := (l.length : Int)) (by omega)
  unfold bodyB
  simp only [List.length_append, List.length_cons, List.length_nil]; omega

theorem enc_s {l : List api_Deed} (hl : l.length ≤ 10000) (hp : ∀ d ∈ l, PW d) : save_Encode l = some (if ∀ d ∈ l, okD d = true then (encB l, 0) else (emptyS, 1)) := by
  unfold save_Encode
  rcases forR_list (save_Encode_b1 l) l (fun t _ => ∀ d ∈ t, okD d = true) (fun _ => False) (fun r => r = (emptyS, 1) ∧ ¬ ∀ d ∈ l, okD d = true) () (fun d h => by simp at h) (fun i x s hx h => by
    cases hk : okD x with
    | true =>
      refine .inl ⟨(), ?_, fun d hd => ?_⟩
      · unfold save_Encode_b1
        rw [gat_nat, hx]
        simp only [Option.bind_some]
        rw [may_eq, hk]; rfl
      · rcases List.mem_append.1 hd with hd | hd
        · exact h d hd
        · simp at hd; subst hd; exact hk
    | false =>
      refine .inr (.inr ⟨(emptyS, 1), ?_, rfl, fun hall => ?_⟩)
      · unfold save_Encode_b1
        rw [gat_nat, hx]
        simp only [Option.bind_some]
        rw [may_eq, hk]; rfl
      · rw [hall x (List.mem_of_getElem? hx)] at hk; cases hk) with ⟨s', e, h | h⟩ | ⟨r, e, rfl, h⟩
  · rw [e]
    simp only [Option.bind_some]
    rw [if_pos h, if_neg (by simp; omega)]
    have hv : ∀ d ∈ l, okD d = true ∧ PW d := fun d hd => ⟨h d hd, hp d hd⟩
    have hn := numI_len (n := (l.length : Int)) (by omega)
    rw [numI_s (by omega) (by omega) (by simp)]
    simp only [Option.bind_some]
    obtain ⟨z, e2, h2⟩ := forO_list (save_Encode_b2 l) l (fun t z => z = [68] ++ numI (l.length : Int) ++ flatB t) ([68] ++ numI (l.length : Int)) (by simp [flatB]) (fun i x s hx h => by
      have hxm := List.mem_of_getElem? hx
      have hi : i < l.length := (List.getElem?_eq_some_iff.1 hx).1
      have hf := flatB_len (l := l.take i) fun d hd => hv d (List.mem_of_mem_take hd)
      have ht : (l.take i).length ≤ 10000 := by rw [List.length_take]; omega
      refine ⟨_, ?_, rfl⟩
      unfold save_Encode_b2
      rw [gat_nat, hx]
      simp only [Option.bind_some]
      rw [deed_s (hv x hxm).1 (hv x hxm).2 (by rw [h]; simp only [List.length_append, List.length_cons, List.length_nil]; omega), h, flatB_app]
      simp)
    rw [e2]
    simp only [Option.bind_some]
    have hz : z = bodyB l := h2
    rw [hz, check_s (bodyB_byte l) (by have := bodyB_len hl hv; omega)]
    rfl
  · exact h.elim
  · rw [e]
    simp only [Option.bind_some]
    rw [if_neg h]

theorem enc_r {l : List api_Deed} (hl : l.length ≤ 10000) (hp : ∀ d ∈ l, PW d) : ref32_Encode l = some (if ∀ d ∈ l, okD d = true then (encB l, 0) else (emptyS, 1)) := by
  unfold ref32_Encode
  rcases forR_list (ref32_Encode_b1 l) l (fun t _ => ∀ d ∈ t, okD d = true) (fun _ => False) (fun r => r = (emptyS, 1) ∧ ¬ ∀ d ∈ l, okD d = true) () (fun d h => by simp at h) (fun i x s hx h => by
    have hif : ((decide (x.What < 0)) || ((decide (x.What > 6)) || ((decide (x.N < 0)) || ((decide (x.N > 99999)) || (decide ((x.Raw.size : Int) > 1000)))))) = !okD x := by
      rw [Bool.eq_iff_iff]
      simp only [Bool.or_eq_true, decide_eq_true_eq, Bool.not_eq_true', ← Bool.not_eq_true, okD_spec]
      omega
    cases hk : okD x with
    | true =>
      refine .inl ⟨(), ?_, fun d hd => ?_⟩
      · unfold ref32_Encode_b1
        rw [gat_nat, hx]
        simp only [Option.bind_some]
        rw [hif, hk]; rfl
      · rcases List.mem_append.1 hd with hd | hd
        · exact h d hd
        · simp at hd; subst hd; exact hk
    | false =>
      refine .inr (.inr ⟨(emptyS, 1), ?_, rfl, fun hall => ?_⟩)
      · unfold ref32_Encode_b1
        rw [gat_nat, hx]
        simp only [Option.bind_some]
        rw [hif, hk]; rfl
      · rw [hall x (List.mem_of_getElem? hx)] at hk; cases hk) with ⟨s', e, h | h⟩ | ⟨r, e, rfl, h⟩
  · rw [e]
    simp only [Option.bind_some]
    rw [if_pos h, if_neg (by simp; omega)]
    have hv : ∀ d ∈ l, okD d = true ∧ PW d := fun d hd => ⟨h d hd, hp d hd⟩
    have hn := numI_len (n := (l.length : Int)) (by omega)
    rw [numI_r (by omega) (by omega)]
    simp only [Option.bind_some]
    rw [gapp_some (by simp; omega)]
    simp only [Option.bind_some]
    obtain ⟨z, e2, h2⟩ := forO_list (ref32_Encode_b2 l) l (fun t z => z = [68] ++ numI (l.length : Int) ++ flatB t) ([68] ++ numI (l.length : Int)) (by simp [flatB]) (fun i x s hx h => by
      have hxm := List.mem_of_getElem? hx
      have hi : i < l.length := (List.getElem?_eq_some_iff.1 hx).1
      have hf := flatB_len (l := l.take i) fun d hd => hv d (List.mem_of_mem_take hd)
      have ht : (l.take i).length ≤ 10000 := by rw [List.length_take]; omega
      have hd := deedB_len (hv x hxm).1 (hv x hxm).2
      refine ⟨_, ?_, rfl⟩
      unfold ref32_Encode_b2
      rw [gat_nat, hx]
      simp only [Option.bind_some]
      rw [deed_r (hv x hxm).1 (hv x hxm).2]
      simp only [Option.bind_some]
      rw [gapp_some (by rw [h]; simp only [List.length_append, List.length_cons, List.length_nil]; omega), h, flatB_app]
      simp)
    rw [e2]
    simp only [Option.bind_some]
    have hz : z = bodyB l := h2
    have hc := check_r (bodyB_byte l) (by have := bodyB_len hl hv; omega)
    rw [hz]
    obtain ⟨a, ha, hc⟩ := bindE hc
    obtain ⟨b, hb, hc⟩ := bindE hc
    rw [ha]; simp only [Option.bind_some]
    rw [hb]; simp only [Option.bind_some]
    rw [hc]
    rfl
  · exact h.elim
  · rw [e]
    simp only [Option.bind_some]
    rw [if_neg h]

end Go.AM
