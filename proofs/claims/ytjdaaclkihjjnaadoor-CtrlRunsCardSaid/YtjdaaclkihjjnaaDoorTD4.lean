import Derived.Test.YtjdaaclkihjjnaaDoorTD3
/-
  Layer 12 of the document's answer: structures, as far as that they answer.
-/
set_option linter.unusedVariables false
set_option linter.unusedSimpArgs false
namespace Go.AM
open Go

/-- A number of 64 bits. -/
def U64 (n : Int) : Prop := ∃ x : Nat, n = x ∧ x < 2 ^ 64

theorem U64.of {x : Nat} (h : x < 2 ^ 64) : U64 x := ⟨x, rfl, h⟩

theorem tag12 (n : api_Nes) (s : Int) : ref12_Tag n s = some (ix (n.Sets.findIdx? fun x => x == s)) := by
  unfold ref12_Tag
  rw [find_run (fun x => x == s) n.Sets _ fun j x hj => by
    simp only [ref12_Tag_b1, gat_nat, hj, Option.bind_some]
    cases (x == s) <;> rfl]
  cases n.Sets.findIdx? _ <;> rfl

theorem find12 (l : List api_Event) (e : api_Event) : ref12_find l e = some (ix (l.findIdx? fun x => x == e)) := by
  unfold ref12_find
  rw [find_run (fun x => x == e) l _ fun j x hj => by
    simp only [ref12_find_b1, gat_nat, hj, Option.bind_some]
    cases (x == e) <;> rfl]
  cases l.findIdx? _ <;> rfl

theorem ix_lt {α : Type} {p : α → Bool} {l : List α} (h : 0 ≤ ix (l.findIdx? p)) : ∃ i x, l.findIdx? p = some i ∧ l[i]? = some x ∧ p x = true := by
  cases hf : l.findIdx? p with
  | none => rw [hf] at h; simp [ix] at h
  | some i =>
    obtain ⟨h1, h2, _⟩ := List.findIdx?_eq_some_iff_getElem.1 hf
    exact ⟨i, _, rfl, List.getElem?_eq_getElem h1, h2⟩

theorem has_total {s : Int} (hs : U64 s) (e : Int) : ∃ b, ref02_Has s e = some b := by
  obtain ⟨x, rfl, hx⟩ := hs
  exact ⟨_, has02 hx⟩

theorem times_total {n : api_Nes} {s : Int} (hs : U64 s) (rule : Int) : ∃ k, ref12_times n s rule = some k := by
  obtain ⟨k, e, _⟩ := forO_keep (ref12_times_b1 n s rule) n.Events.length (fun _ => True) 0 trivial (fun i hi k _ => by
    obtain ⟨b, hb⟩ := has_total hs (i : Int)
    simp only [ref12_times_b1, gat_nat, List.getElem?_eq_getElem hi, Option.bind_some, hb]
    by_cases c : (n.Events[i].Rule == rule) = true
    · simp only [c, if_true, Option.bind_some]; cases b <;> exact ⟨_, rfl, trivial⟩
    · simp only [c]; exact ⟨_, rfl, trivial⟩)
  exact ⟨k, by unfold ref12_times; rw [e]; rfl⟩

/-- A structure on its way. -/
structure NesOk (V : List api_Event) (S : List Int) (T : List (List Int)) : Prop where
  len : S.length = T.length
  ev : V.length ≤ 65
  le : S.length ≤ 256
  u : ∀ s ∈ S, U64 s
  zero : S[0]? = some 0
  nd : S.Nodup

theorem NesOk.pos {V : List api_Event} {S : List Int} {T : List (List Int)} (h : NesOk V S T) : 0 < S.length := (List.getElem?_eq_some_iff.1 h.zero).1

theorem with_total {s : Int} (hs : U64 s) {e : Int} (he : 0 ≤ e) : ∃ t, ref02_With s e = some t ∧ U64 t := by
  obtain ⟨x, rfl, hx⟩ := hs
  obtain ⟨k, rfl⟩ : ∃ k : Nat, e = k := ⟨e.toNat, by omega⟩
  exact ⟨_, withN hx, .of (with64_lt hx)⟩

def noneN : api_Nes := api_Nes.mk [] [] []

theorem setsB2_total {n : Nat} {XS : List (List Int)} {XE : List api_Edge} (hX : SpOk n XS XE) {i : Nat} {V : List api_Event} {S : List Int} {T : List (List Int)} (h : NesOk V S T) (hi : i < S.length) (r : Int) (hV : V.length ≤ 64) (k : Nat) (hk : k < XE.length) :
    (∃ V' S' T', ref12_sets_b2 (api_Space.mk XS XE) i r k (V, S, T) = some (.next (V', S', T')) ∧ NesOk V' S' T' ∧ S.length ≤ S'.length ∧ V'.length ≤ 64) ∨
    ∃ f, ref12_sets_b2 (api_Space.mk XS XE) i r k (V, S, T) = some (.ret (.ret (noneN, f))) ∧ f ≠ 0 := by
  have hed := hX.edg _ (List.getElem_mem hk)
  have hsi : U64 S[i] := h.u _ (List.getElem_mem hi)
  have hle := h.le
  unfold ref12_sets_b2
  simp only [gat_nat, List.getElem?_eq_getElem hk, List.getElem?_eq_getElem hi, Option.bind_some]
  by_cases c0 : (XE[k].From != r) = true
  · rw [if_pos c0]; exact .inl ⟨_, _, _, rfl, h, Nat.le_refl _, hV⟩
  rw [if_neg c0]
  obtain ⟨m, hm⟩ := times_total (n := api_Nes.mk V S T) hsi XE[k].Rule
  simp only [hm, Option.bind_some, find12]
  generalize hev : api_Event.mk XE[k].Rule m = ev
  -- the event
  have step : ∃ (V' : List api_Event) (y : Int), ((if decide (ix (V.findIdx? fun x => x == ev) < 0) then (gapp V ([ev] : List api_Event)).bind fun l25 => some (l25, (V.length : Int)) else some (V, ix (V.findIdx? fun x => x == ev))) : Option (List api_Event × Int)) = some (V', y) ∧ 0 ≤ y ∧ V'.length ≤ 65 ∧ (y ≤ 63 → V'.length ≤ 64) := by
    by_cases c : ix (V.findIdx? fun x => x == ev) < 0
    · rw [if_pos (by simpa using c), gapp_some (by simp; omega)]
      exact ⟨_, _, rfl, by omega, by simp; omega, fun h => by simp; omega⟩
    · rw [if_neg (by simpa using c)]
      exact ⟨_, _, rfl, by omega, by omega, fun _ => hV⟩
  obtain ⟨V', y, e1, hy, hV', hV64⟩ := step
  rw [e1]
  simp only [Option.bind_some]
  by_cases c1 : y > 63
  · rw [if_pos (by simpa using c1)]; exact .inr ⟨_, rfl, by decide⟩
  rw [if_neg (by simpa using c1)]
  obtain ⟨t, ht, hut⟩ := with_total hsi hy
  simp only [ht, Option.bind_some, tag12]
  by_cases c2 : 0 ≤ ix (S.findIdx? fun x => x == t)
  · rw [if_pos (by simpa using c2)]
    obtain ⟨j, x, hj, hx, _⟩ := ix_lt c2
    have hjl : j < S.length := (List.getElem?_eq_some_iff.1 hx).1
    have hjT : j < T.length := by rw [← h.len]; exact hjl
    obtain ⟨z, hz⟩ := gat_lt' XS hed.2.1 hed.2.2
    rw [hj]
    simp only [ix, gat_nat, List.getElem?_eq_getElem hjT, hz, Option.bind_some, same11]
    cases sameB T[j] z
    · exact .inr ⟨_, rfl, by decide⟩
    · exact .inl ⟨_, _, _, rfl, ⟨h.len, hV', h.le, h.u, h.zero, h.nd⟩, Nat.le_refl _, hV64 (by omega)⟩
  · rw [if_neg (by simpa using c2)]
    rw [gapp_some (by simp; omega)]
    obtain ⟨z, hz⟩ := gat_lt' XS hed.2.1 hed.2.2
    simp only [hz, Option.bind_some]
    have hTl := h.len
    rw [gapp_some (by simp; omega)]
    simp only [Option.bind_some]
    by_cases c3 : S.length + 1 > 256
    · rw [if_pos (by simp; omega)]; exact .inr ⟨_, rfl, by decide⟩
    · rw [if_neg (by simp; omega)]
      refine .inl ⟨_, _, _, rfl, ⟨by simp [h.len], hV', by simp; omega, fun s hs => ?_, by rw [List.getElem?_append_left h.pos]; exact h.zero, ?_⟩, by simp, hV64 (by omega)⟩
      · rcases List.mem_append.1 hs with hs | hs
        · exact h.u s hs
        · simp at hs; subst hs; exact hut
      · refine List.nodup_append.2 ⟨h.nd, by simp, fun a ha b hb => ?_⟩
        simp at hb
        subst hb
        rintro rfl
        cases hf : S.findIdx? (fun x => x == a) with
        | none =>
          have := List.findIdx?_eq_none_iff.1 hf a ha
          simp at this
        | some q => rw [hf] at c2; simp [ix] at c2

theorem sets_outer {n : Nat} {XS : List (List Int)} {XE : List api_Edge} (hX : SpOk n XS XE) : ∀ (d f i : Nat) (V : List api_Event) (S : List Int) (T : List (List Int)), NesOk V S T → V.length ≤ 64 → 257 ≤ i + d → d < f →
    (∃ V' S' T' j, whR (ref12_sets_b1 (api_Space.mk XS XE)) f (V, S, T, (i : Int)) = some (.done (V', S', T', j)) ∧ NesOk V' S' T' ∧ V'.length ≤ 64) ∨ ∃ g, whR (ref12_sets_b1 (api_Space.mk XS XE)) f (V, S, T, (i : Int)) = some (.ret (noneN, g)) ∧ g ≠ 0 := by
  intro d
  induction d with
  | zero =>
    intro f i V S T h hV hd hf
    obtain ⟨f, rfl⟩ : ∃ g, f = g + 1 := ⟨f - 1, by omega⟩
    have := h.le
    rw [whR_step]
    simp only [ref12_sets_b1]
    rw [if_neg (by simp; omega)]
    exact .inl ⟨_, _, _, _, rfl, h, hV⟩
  | succ d ih =>
    intro f i V S T h hV hd hf
    obtain ⟨f, rfl⟩ : ∃ g, f = g + 1 := ⟨f - 1, by omega⟩
    have hle := h.le
    rw [whR_step]
    simp only [ref12_sets_b1]
    by_cases c : i < S.length
    · rw [if_pos (by simp; omega)]
      have hiT : i < T.length := by rw [← h.len]; exact c
      simp only [gat_nat, List.getElem?_eq_getElem hiT, Option.bind_some, find11]
      have := forR_keep (ref12_sets_b2 (api_Space.mk XS XE) i (ix (XS.findIdx? fun x => sameB x T[i]))) XE.length (fun q => NesOk q.1 q.2.1 q.2.2 ∧ S.length ≤ q.2.1.length ∧ q.1.length ≤ 64) (fun r => ∃ g, r = .ret (noneN, g) ∧ g ≠ 0) (V, S, T) ⟨h, Nat.le_refl _, hV⟩ (by
        rintro k hk ⟨V1, S1, T1⟩ ⟨g1, g2, g3⟩
        rcases setsB2_total hX g1 (i := i) (Nat.lt_of_lt_of_le c g2) (ix (XS.findIdx? fun x => sameB x T[i])) g3 k hk with ⟨V', S', T', e, q1, q2, q3⟩ | ⟨g, e, hg⟩
        · exact .inl ⟨_, e, q1, Nat.le_trans g2 q2, q3⟩
        · exact .inr ⟨_, e, g, rfl, hg⟩)
      rcases this with ⟨⟨V', S', T'⟩, e, g1, g2, g3⟩ | ⟨r, e, g, rfl, hg⟩
      · rw [e]
        simp only [Option.bind_some]
        have hw : IntKind.i64.wrap ((i : Int) + 1) = ((i + 1 : Nat) : Int) := by rw [w_i64 (by omega) (by omega)]; omega
        rw [hw]
        exact ih f (i + 1) V' S' T' g1 g3 (by omega) (by omega)
      · rw [e]; exact .inr ⟨g, rfl, hg⟩
    · rw [if_neg (by simp; omega)]
      exact .inl ⟨_, _, _, _, rfl, h, hV⟩

theorem sets_total (p : api_Program) {n : Nat} {XS : List (List Int)} {XE : List api_Edge} (hX : SpOk n XS XE) :
    (∃ V S T, ref12_sets p (api_Space.mk XS XE) = some (api_Nes.mk V S T, 0) ∧ NesOk V S T ∧ V.length ≤ 64) ∨ ∃ g, ref12_sets p (api_Space.mk XS XE) = some (noneN, g) ∧ g ≠ 0 := by
  unfold ref12_sets
  cases XS with
  | nil => exact (hX.ne rfl).elim
  | cons s0 XS =>
    have h0 : gat (s0 :: XS) 0 = some s0 := rfl
    simp only [h0, Option.bind_some]
    have hok : NesOk [] [0] [s0] := ⟨rfl, by simp, by simp, fun s hs => by simp at hs; subst hs; exact .of (x := 0) (by omega), rfl, by simp⟩
    obtain ⟨m, hm⟩ := FUEL_big 300 (by omega)
    rcases sets_outer hX 257 FUEL 0 [] [0] [s0] hok (by simp) (by omega) (by omega) with ⟨V, S, T, j, e, h1, h2⟩ | ⟨g, e, hg⟩
    · rw [show ((0 : Nat) : Int) = (0 : Int) from rfl] at e
      rw [e]; exact .inl ⟨V, S, T, rfl, h1, h2⟩
    · rw [show ((0 : Nat) : Int) = (0 : Int) from rfl] at e
      rw [e]; exact .inr ⟨g, rfl, hg⟩

end Go.AM
