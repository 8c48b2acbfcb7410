import Derived.Test.YtjdaaclkihjjnaaDoorTD4
/-
  Layer 12 of the document's answer: it answers for every program.
-/
set_option linter.unusedVariables false
set_option linter.unusedSimpArgs false
namespace Go.AM
open Go

theorem leads_total {n : Nat} {XS : List (List Int)} {XE : List api_Edge} (hX : SpOk n XS XE) (r : Int) (a b : List Int) : ∃ y, ref12_leads (api_Space.mk XS XE) r a b = some y := by
  unfold ref12_leads
  have := forR_keep (ref12_leads_b1 (api_Space.mk XS XE) r a b) XE.length (fun _ => True) (fun _ => True) () trivial (fun i hi s _ => by
    have hed := hX.edg _ (List.getElem_mem hi)
    obtain ⟨x, hx⟩ := gat_lt' XS hed.1.1 hed.1.2
    obtain ⟨z, hz⟩ := gat_lt' XS hed.2.1 hed.2.2
    simp only [ref12_leads_b1, gat_nat, List.getElem?_eq_getElem hi, Option.bind_some, hx, hz, same11]
    by_cases c : (XE[i].Rule == r) = true
    · cases sameB x a <;> cases sameB z b <;> simp [c]
    · simp [c])
  rcases this with ⟨s, e, _⟩ | ⟨y, e, _⟩
  · exact ⟨false, by simp only; rw [e]; rfl⟩
  · exact ⟨y, by simp only; rw [e]; rfl⟩

theorem cons12 {n : api_Nes} {s : Int} : ref12_Consistent n s = some (n.Sets.any fun x => andI .u64 s x == s) := by
  unfold ref12_Consistent
  rw [any_run (fun x => andI .u64 s x == s) true n.Sets _ (fun j x hj => by
    simp only [ref12_Consistent_b1, gat_nat, hj, Option.bind_some]
    cases (andI .u64 s x == s) <;> rfl)]
  cases n.Sets.any _ <;> rfl

theorem family_total {n : Nat} {XS : List (List Int)} {XE : List api_Edge} (hX : SpOk n XS XE) {V : List api_Event} {S : List Int} {T : List (List Int)} (h : NesOk V S T) : ∃ b, ref12_family (api_Nes.mk V S T) (api_Space.mk XS XE) = some b := by
  have h2 : ∀ i : Nat, i < S.length → ∀ k : Nat, k < V.length → (ref12_family_b2 (api_Nes.mk V S T) (api_Space.mk XS XE) i k () = some (.next ())) ∨ ref12_family_b2 (api_Nes.mk V S T) (api_Space.mk XS XE) i k () = some (.ret (.ret false)) := by
    intro i hi k hk
    obtain ⟨t, ht, _⟩ := with_total (h.u _ (List.getElem_mem hi)) (e := (k : Int)) (by omega)
    simp only [ref12_family_b2, gat_nat, List.getElem?_eq_getElem hi, List.getElem?_eq_getElem hk, Option.bind_some, ht, tag12]
    by_cases c : ix (S.findIdx? fun x => x == t) ≥ 0
    · obtain ⟨j, x, hj, hx, _⟩ := ix_lt c
      have hjT : j < T.length := by rw [← h.len]; exact (List.getElem?_eq_some_iff.1 hx).1
      have hiT : i < T.length := by rw [← h.len]; exact hi
      rw [hj]
      obtain ⟨b, hb⟩ := leads_total hX V[k].Rule T[i] T[j]
      simp only [ix, gat_nat, List.getElem?_eq_getElem hiT, List.getElem?_eq_getElem hjT, Option.bind_some, hb]
      by_cases c2 : ((j : Int) != i) = true
      · cases b <;> simp [c2]
      · simp [c2]
    · simp [c]
  have h3 : ∀ i : Nat, i < S.length → ∀ k : Nat, k < S.length → (ref12_family_b3 (api_Nes.mk V S T) i k () = some (.next ())) ∨ ref12_family_b3 (api_Nes.mk V S T) i k () = some (.ret (.ret false)) := by
    intro i hi k hk
    simp only [ref12_family_b3, gat_nat, List.getElem?_eq_getElem hi, List.getElem?_eq_getElem hk, Option.bind_some, tag12, cons12]
    generalize ix _ = y
    generalize List.any _ _ = z
    by_cases c : y < 0
    · cases z <;> simp [c]
    · simp [c]
  have := forR_keep (ref12_family_b1 (api_Nes.mk V S T) (api_Space.mk XS XE)) S.length (fun _ => True) (fun _ => True) () trivial (fun i hi s _ => by
    simp only [ref12_family_b1]
    have q2 := forR_keep (ref12_family_b2 (api_Nes.mk V S T) (api_Space.mk XS XE) i) V.length (fun _ => True) (fun r => r = .ret false) () trivial (fun k hk u _ => by
      rcases h2 i hi k hk with e | e
      · exact .inl ⟨_, e, trivial⟩
      · exact .inr ⟨_, e, rfl⟩)
    have q3 := forR_keep (ref12_family_b3 (api_Nes.mk V S T) i) i (fun _ => True) (fun r => r = .ret false) () trivial (fun k hk u _ => by
      rcases h3 i hi k (by omega) with e | e
      · exact .inl ⟨_, e, trivial⟩
      · exact .inr ⟨_, e, rfl⟩)
    rcases q2 with ⟨u, e, _⟩ | ⟨r, e, rfl⟩
    · rw [e]
      simp only [Option.bind_some]
      rcases q3 with ⟨u, e, _⟩ | ⟨r, e, rfl⟩
      · rw [e]; exact .inl ⟨_, rfl, trivial⟩
      · rw [e]; exact .inr ⟨_, rfl, trivial⟩
    · rw [e]; exact .inr ⟨_, rfl, trivial⟩)
  unfold ref12_family
  rcases this with ⟨s, e, _⟩ | ⟨y, e, _⟩
  · exact ⟨true, by simp only; rw [e]; rfl⟩
  · exact ⟨y, by simp only; rw [e]; rfl⟩

theorem switch_total (p : api_Program) (n : api_Nes) (e : Int) : ∃ y, ref12_Switch p n e = some y := by
  unfold ref12_Switch
  by_cases c1 : e < 0
  · exact ⟨_, by simp [c1]; rfl⟩
  by_cases c2 : e ≥ n.Events.length
  · exact ⟨_, by simp [c1, c2]; rfl⟩
  obtain ⟨v, hv⟩ := gat_lt' n.Events (i := e) (by omega) (by omega)
  rw [if_neg (by simpa using c1), if_neg (by simpa using c2), hv]
  simp only [Option.bind_some]
  by_cases c3 : v.Rule < 0
  · exact ⟨_, by simp [c3]; rfl⟩
  by_cases c4 : v.Rule ≥ p.Rules.length
  · exact ⟨_, by simp [c3, c4]; rfl⟩
  obtain ⟨r, hr⟩ := gat_lt' p.Rules (i := v.Rule) (by omega) (by omega)
  have := forR_keep (ref12_Switch_b1 r) r.When.length (fun _ => True) (fun _ => True) () trivial (fun i hi s _ => by
    simp only [ref12_Switch_b1, gat_nat, List.getElem?_eq_getElem hi, Option.bind_some]
    by_cases c : (r.When[i].F == 0) = true
    · exact .inr ⟨_, by rw [if_pos c], trivial⟩
    · exact .inl ⟨_, by rw [if_neg c], trivial⟩)
  simp only [c3, c4, decide_false, Bool.false_eq_true, if_false, Option.bind_some, hr]
  rcases this with ⟨s, e, _⟩ | ⟨y, e, _⟩
  · rw [e]; exact ⟨_, rfl⟩
  · rw [e]; exact ⟨_, rfl⟩

theorem add12 (l : List Int) (s : Int) (hl : l.length ≤ 100000) : ∃ l', ref12_add l s = some l' ∧ l' ≠ [] ∧ l'.length ≤ l.length + 1 ∧ ∀ x ∈ l', x ∈ l ∨ x = s := by
  unfold ref12_add
  rw [any_run (fun x => x == s) l l _ (fun j x hj => by
    simp only [ref12_add_b1, gat_nat, hj, Option.bind_some]
    cases (x == s) <;> rfl)]
  cases h : l.any fun x => x == s
  · rw [gapp_some (by simp; omega)]
    exact ⟨_, rfl, by simp, by simp, fun x hx => by simpa using hx⟩
  · refine ⟨_, rfl, ?_, by omega, fun x hx => .inl hx⟩
    rintro rfl
    simp at h

theorem and_u {a b : Int} (ha : U64 a) (hb : U64 b) : U64 (andI .u64 a b) := by
  obtain ⟨x, rfl, hx⟩ := ha
  obtain ⟨y, rfl, hy⟩ := hb
  exact ⟨_, andI_nat hx hy, Nat.and_lt_two_pow x hy⟩
theorem or_u {a b : Int} (ha : U64 a) (hb : U64 b) : U64 (orI .u64 a b) := by
  obtain ⟨x, rfl, hx⟩ := ha
  obtain ⟨y, rfl, hy⟩ := hb
  exact ⟨_, orI_nat hx hy, Nat.or_lt_two_pow hx hy⟩

/-- One of the sets is in no other one. -/
theorem greatest_one {S : List Int} (hu : ∀ s ∈ S, U64 s) (hnd : S.Nodup) (hne : S ≠ []) : ∃ (k : Nat) (hk : k < S.length), ∀ (j : Nat) (hj : j < S.length), j ≠ k → andI .u64 S[k] S[j] ≠ S[k] := by
  -- the greatest number
  have : ∃ m ∈ S, ∀ x ∈ S, x ≤ m := by
    clear hu hnd
    induction S with
    | nil => exact (hne rfl).elim
    | cons a S ih =>
      by_cases h : S = []
      · subst h; exact ⟨a, by simp, by simp⟩
      · obtain ⟨m, hm, hx⟩ := ih h
        by_cases c : a ≤ m
        · exact ⟨m, by simp [hm], fun x hx' => by rcases List.mem_cons.1 hx' with rfl | h; exact c; exact hx x h⟩
        · exact ⟨a, by simp, fun x hx' => by
            rcases List.mem_cons.1 hx' with rfl | h
            · exact Int.le_refl _
            · have := hx x h; omega⟩
  obtain ⟨m, hm, hmax⟩ := this
  obtain ⟨k, hk, rfl⟩ := List.getElem_of_mem hm
  refine ⟨k, hk, fun j hj hne h => hne ?_⟩
  obtain ⟨x, hx, hx2⟩ := hu _ (List.getElem_mem hk)
  obtain ⟨y, hy, hy2⟩ := hu _ (List.getElem_mem hj)
  have hle := hmax _ (List.getElem_mem hj)
  have heq : S[j] = S[k] := by
    rw [hx, hy, andI_nat hx2 hy2] at h
    rw [hx, hy] at hle ⊢
    have e : x &&& y = x := by omega
    have : x &&& y ≤ y := Nat.and_le_right
    omega
  exact (List.getElem_inj hnd).1 heq

/-- Of each switch the parts: none is without one. -/
def PartsOk (l : List (List Int)) : Prop := l.length ≤ 64 ∧ ∀ x ∈ l, x ≠ [] ∧ x.length ≤ 256 ∧ ∀ s ∈ x, U64 s

theorem parts_total (p : api_Program) {V : List api_Event} {S : List Int} {T : List (List Int)} (h : NesOk V S T) (hV : V.length ≤ 64) : ∃ l, ref12_parts p (api_Nes.mk V S T) = some l ∧ PartsOk l := by
  have hle := h.le
  -- the events of each switch
  obtain ⟨⟨l1, l2⟩, e1, g1, g2, g3⟩ := forO_list (ref12_parts_b1 p (api_Nes.mk V S T)) V (fun q s => s.1.length = s.2.length ∧ s.1.length ≤ q.length ∧ ∀ x ∈ s.2, U64 x) ([], []) ⟨rfl, by simp, by simp⟩ (by
    rintro i v ⟨a, b⟩ hv ⟨g1, g2, g3⟩
    simp only at g1 g2 g3
    have hiV : i < V.length := (List.getElem?_eq_some_iff.1 hv).1
    have ha : a.length ≤ 64 := by simp at g2; omega
    obtain ⟨sw, hsw⟩ := switch_total p (api_Nes.mk V S T) (i : Int)
    simp only [ref12_parts_b1, hsw, Option.bind_some]
    -- the place
    have find : ∀ (d f j : Nat), j ≤ a.length → a.length ≤ j + d → d < f → ∃ z : Nat, whK (ref12_parts_b2 a sw) f (j : Int) = some (z : Int) ∧ z ≤ a.length := by
      intro d
      induction d with
      | zero =>
        intro f j h1 h2 hf
        obtain ⟨f, rfl⟩ : ∃ g, f = g + 1 := ⟨f - 1, by omega⟩
        rw [whK_step]
        simp only [ref12_parts_b2]
        rw [if_neg (by simp; omega)]
        exact ⟨j, rfl, h1⟩
      | succ d ih =>
        intro f j h1 h2 hf
        obtain ⟨f, rfl⟩ : ∃ g, f = g + 1 := ⟨f - 1, by omega⟩
        rw [whK_step]
        simp only [ref12_parts_b2]
        by_cases c : j < a.length
        · rw [if_pos (by simpa using c), gat_nat, List.getElem?_eq_getElem c]
          simp only [Option.bind_some]
          by_cases c2 : (a[j] != sw) = true
          · rw [if_pos c2]
            have hw : IntKind.i64.wrap ((j : Int) + 1) = ((j + 1 : Nat) : Int) := by rw [w_i64 (by omega) (by omega)]; omega
            simp only [Option.bind_some, hw]
            exact ih f (j + 1) (by omega) (by omega) (by omega)
          · rw [if_neg c2]; exact ⟨j, rfl, h1⟩
        · rw [if_neg (by simpa using c)]; exact ⟨j, rfl, h1⟩
    obtain ⟨m, hm⟩ := FUEL_big 300 (by omega)
    obtain ⟨z, hz, hzl⟩ := find a.length FUEL 0 (by omega) (by omega) (by omega)
    rw [show ((0 : Nat) : Int) = (0 : Int) from rfl] at hz
    simp only [hz, Option.bind_some]
    have step : ∃ a' b', ((if ((z : Int) == (a.length : Int)) = true then (gapp a ([sw] : List Int)).bind fun l19 => (gapp b ([0] : List Int)).bind fun l20 => some (l19, l20) else some (a, b)) : Option (List Int × List Int)) = some (a', b') ∧ a'.length = b'.length ∧ a'.length ≤ a.length + 1 ∧ z < b'.length ∧ ∀ x ∈ b', U64 x := by
      by_cases c : z = a.length
      · rw [if_pos (by simp; omega), gapp_some (by simp; omega)]
        simp only [Option.bind_some]
        rw [gapp_some (by simp; omega)]
        refine ⟨_, _, rfl, by simp [g1], by simp, by simp; omega, fun x hx => ?_⟩
        rcases List.mem_append.1 hx with hx | hx
        · exact g3 x hx
        · simp at hx; subst hx; exact .of (x := 0) (by omega)
      · rw [if_neg (by simp; omega)]
        exact ⟨_, _, rfl, g1, by omega, by omega, g3⟩
    obtain ⟨a', b', e, q1, q2, q3, q4⟩ := step
    rw [e]
    simp only [Option.bind_some, gat_nat, List.getElem?_eq_getElem q3]
    obtain ⟨t, ht, hut⟩ := with_total (q4 _ (List.getElem_mem q3)) (e := (i : Int)) (by omega)
    simp only [ht, Option.bind_some]
    rw [gput_lt b' (by omega) (by omega)]
    refine ⟨_, rfl, by simp; omega, by simp at g2 ⊢; omega, fun x hx => ?_⟩
    rcases List.mem_or_eq_of_mem_set hx with hx | rfl
    · exact q4 x hx
    · exact hut)
  simp only at g1 g2 g3
  unfold ref12_parts
  simp only
  rw [e1]
  simp only [Option.bind_some]
  obtain ⟨l, e2, k1, k2⟩ := forO_list (ref12_parts_b3 (api_Nes.mk V S T) l2) l2 (fun q l => l.length = q.length ∧ ∀ x ∈ l, x ≠ [] ∧ x.length ≤ 256 ∧ ∀ s ∈ x, U64 s) [] ⟨rfl, by simp⟩ (by
    rintro i at_ l hi ⟨k1, k2⟩
    have hil : i < l2.length := (List.getElem?_eq_some_iff.1 hi).1
    have hat : U64 at_ := g3 _ (List.mem_of_getElem? hi)
    obtain ⟨k0, hk0, hgr⟩ := greatest_one h.u h.nd (fun e => by have := h.pos; rw [e] at this; simp at this)
    obtain ⟨x, e3, q1, q2, q3⟩ := forO_list (ref12_parts_b4 (api_Nes.mk V S T) l2 i) S (fun q x => x.length ≤ q.length ∧ (∀ s ∈ x, U64 s) ∧ (k0 < q.length → x ≠ [])) [] ⟨by simp, by simp, by simp⟩ (by
      rintro k s x hk ⟨r1, r2, r3⟩
      have hkl : k < S.length := (List.getElem?_eq_some_iff.1 hk).1
      have hsk : S[k] = s := by rw [List.getElem?_eq_getElem hkl] at hk; simpa using hk
      have htk : (S.take k).length = k := by simp; omega
      rw [htk] at r1 r3
      -- is it a greatest one?
      obtain ⟨b, e5, hb⟩ := forO_keep (ref12_parts_b5 (api_Nes.mk V S T) k) S.length (fun b => k = k0 → b = true) true (fun _ => rfl) (fun j hj b hb => by
        simp only [ref12_parts_b5, gat_nat, List.getElem?_eq_getElem hj, hk, Option.bind_some]
        cases b with
        | false => exact ⟨_, rfl, hb⟩
        | true =>
          by_cases c : ((j : Int) == k) = true
          · simp only [c, if_true, Option.bind_some]; exact ⟨_, rfl, fun _ => rfl⟩
          · simp only [c, if_true, Option.bind_some]
            refine ⟨_, rfl, fun e => ?_⟩
            subst e
            have := hgr j hj (fun e => c (by simp [e]))
            rw [hsk] at this
            simpa using this)
      simp only [ref12_parts_b4, e5, Option.bind_some, gat_nat, hk, hi]
      cases b with
      | false =>
        refine ⟨_, rfl, by simp; omega, r2, fun hlt => ?_⟩
        simp [htk] at hlt
        rcases Nat.lt_or_ge k0 k with c | c
        · exact r3 c
        · have := hb (by omega); cases this
      | true =>
        obtain ⟨x', e6, s1, s2, s3⟩ := add12 x (andI .u64 s at_) (by omega)
        simp only [if_true, e6, Option.bind_some]
        refine ⟨_, rfl, by simp; omega, fun t ht => ?_, fun _ => s1⟩
        rcases s3 t ht with h1 | rfl
        · exact r2 t h1
        · exact and_u (by rw [← hsk]; exact h.u _ (List.getElem_mem hkl)) hat)
    simp only [ref12_parts_b3]
    rw [e3]
    simp only [Option.bind_some]
    have htl : (l2.take i).length = i := by simp; omega
    rw [htl] at k1
    rw [gapp_some (by simp; omega)]
    refine ⟨_, rfl, by simp; omega, fun y hy => ?_⟩
    rcases List.mem_append.1 hy with hy | hy
    · exact k2 y hy
    · simp at hy; subst hy; exact ⟨q3 hk0, by omega, q2⟩)
  rw [e2]
  exact ⟨l, rfl, by omega, k2⟩

/-- The product of the lengths. -/
def prodL : List (List Int) → Nat
  | [] => 1
  | x :: l => x.length * prodL l

theorem prodL_app (l m : List (List Int)) : prodL (l ++ m) = prodL l * prodL m := by
  induction l with
  | nil => simp [prodL]
  | cons x l ih => simp only [List.cons_append, prodL, ih, Nat.mul_assoc]
theorem prodL_pos : ∀ {l : List (List Int)}, (∀ x ∈ l, x ≠ []) → 0 < prodL l
  | [], _ => by simp [prodL]
  | x :: l, h => by
    have h1 : 0 < x.length := List.length_pos_iff.2 (h x (by simp))
    exact Nat.mul_pos h1 (prodL_pos fun y hy => h y (by simp [hy]))

theorem local_total (p : api_Program) {V : List api_Event} {S : List Int} {T : List (List Int)} (h : NesOk V S T) (hV : V.length ≤ 64) : ∃ f, ref12_local p (api_Nes.mk V S T) = some f := by
  obtain ⟨l, hl, hlen, hp⟩ := parts_total p h hV
  unfold ref12_local
  rw [hl]
  simp only [Option.bind_some]
  obtain ⟨z, e1, hz⟩ := forO_list (ref12_local_b1 l) l (fun q z => z = ((min (prodL q) 20001 : Nat) : Int)) 1 (by simp [prodL]) (by
    rintro i x z hx rfl
    have hxl := (hp x (List.mem_of_getElem? hx)).2.1
    have hne := (hp x (List.mem_of_getElem? hx)).1
    have hxp : 0 < x.length := List.length_pos_iff.2 hne
    have hle : min (prodL (l.take i)) 20001 * x.length ≤ 20001 * 256 := Nat.mul_le_mul (Nat.min_le_right _ _) hxl
    simp only [ref12_local_b1, gat_nat, hx, Option.bind_some]
    refine ⟨_, rfl, ?_⟩
    rw [prodL_app]
    simp only [prodL, Nat.mul_one]
    rw [← Int.natCast_mul, w_i64 (by omega) (by omega)]
    generalize hq : prodL (l.take i) = q at *
    unfold imin
    rcases Nat.le_total q 20001 with c | c
    · rw [Nat.min_eq_left c] at *
      generalize q * x.length = w at *
      split <;> omega
    · rw [Nat.min_eq_right c] at *
      have h1 : 20001 * 1 ≤ 20001 * x.length := Nat.mul_le_mul_left _ hxp
      have h2 : 20001 * x.length ≤ q * x.length := Nat.mul_le_mul_right _ c
      generalize q * x.length = w at *
      generalize 20001 * x.length = w' at *
      split <;> omega)
  rw [e1]
  simp only [Option.bind_some]
  subst hz
  by_cases c : prodL l > 20000
  · rw [if_pos (by simp; omega)]; exact ⟨_, rfl⟩
  rw [if_neg (by simp; omega)]
  obtain ⟨u, e2, hu⟩ := forO_list (ref12_local_b2 l) l (fun q u => u.length = prodL q ∧ ∀ s ∈ u, U64 s) [0] ⟨rfl, fun s hs => by simp at hs; subst hs; exact .of (x := 0) (by omega)⟩ (by
    rintro i x u hx ⟨hu1, hu2⟩
    have hxm := hp x (List.mem_of_getElem? hx)
    have hil : i < l.length := (List.getElem?_eq_some_iff.1 hx).1
    have hbound : prodL (l.take i ++ [x]) ≤ 20000 := by
      have e : l = (l.take i ++ [x]) ++ l.drop (i + 1) := by
        rw [List.append_assoc, List.singleton_append]
        conv => lhs; rw [← List.take_append_drop i l]
        congr 1
        rw [List.drop_eq_getElem_cons hil]
        rw [List.getElem?_eq_getElem hil] at hx
        cases hx; rfl
      have hpos : 0 < prodL (l.drop (i + 1)) := prodL_pos fun y hy => (hp y (List.mem_of_mem_drop hy)).1
      rw [e, prodL_app] at c
      have := Nat.mul_le_mul_left (prodL (l.take i ++ [x])) hpos
      omega
    rw [prodL_app] at hbound
    simp only [prodL, Nat.mul_one] at hbound
    obtain ⟨w, e3, hw⟩ := forO_list (ref12_local_b3 l u i) u (fun q w => w.length = q.length * x.length ∧ ∀ s ∈ w, U64 s) [] ⟨by simp, by simp⟩ (by
      rintro k s w hk ⟨hw1, hw2⟩
      have hkl : k < u.length := (List.getElem?_eq_some_iff.1 hk).1
      have htk : (u.take k).length = k := by simp; omega
      rw [htk] at hw1
      have hb2 : (k + 1) * x.length ≤ 20000 := Nat.le_trans (Nat.mul_le_mul_right _ (show k + 1 ≤ prodL (l.take i) by omega)) hbound
      rw [Nat.succ_mul] at hb2
      simp only [ref12_local_b3, gat_nat, hx, Option.bind_some]
      obtain ⟨w', e4, h1, h2⟩ := forO_list (ref12_local_b4 u k x) x (fun q w' => w'.length = w.length + q.length ∧ ∀ s ∈ w', U64 s) w ⟨by simp, hw2⟩ (by
        rintro j t w' hj ⟨g1, g2⟩
        have hjl : j < x.length := (List.getElem?_eq_some_iff.1 hj).1
        have htj : (x.take j).length = j := by simp; omega
        rw [htj] at g1
        simp only [ref12_local_b4, gat_nat, hk, hj, Option.bind_some]
        rw [gapp_some (by simp; omega)]
        refine ⟨_, rfl, by simp; omega, fun y hy => ?_⟩
        rcases List.mem_append.1 hy with hy | hy
        · exact g2 y hy
        · simp at hy; subst hy; exact or_u (hu2 _ (List.mem_of_getElem? hk)) (hxm.2.2 _ (List.mem_of_getElem? hj)))
      rw [e4]
      refine ⟨w', rfl, ?_, h2⟩
      rw [h1, hw1]
      simp only [List.length_append, htk, List.length_singleton, Nat.succ_mul])
    simp only [ref12_local_b2]
    rw [e3]
    refine ⟨w, rfl, ?_, hw.2⟩
    rw [hw.1, hu1, prodL_app]
    simp [prodL])
  rw [e2]
  simp only [Option.bind_some]
  have := forR_keep (ref12_local_b5 (api_Nes.mk V S T) u) u.length (fun _ => True) (fun _ => True) () trivial (fun i hi s _ => by
    simp only [ref12_local_b5, gat_nat, List.getElem?_eq_getElem hi, Option.bind_some, cons12]
    cases (S.any fun x => andI .u64 u[i] x == u[i])
    · exact .inr ⟨_, rfl, trivial⟩
    · exact .inl ⟨_, rfl, trivial⟩)
  rcases this with ⟨s, e, _⟩ | ⟨y, e, _⟩
  · rw [e]; exact ⟨_, rfl⟩
  · rw [e]; exact ⟨_, rfl⟩

/-- The document's structure of a program, or its error. -/
theorem of_total (p : api_Program) (hp : p.Pol = dropP) (hs : SmallP p) : ∃ n f, ref12_Of p = some (n, f) ∧ (f = 0 → NesOk n.Events n.Sets n.States) := by
  obtain ⟨x, f, e, hx⟩ := explore_total p hp hs
  unfold ref12_Of
  rw [e]
  simp only [Option.bind_some]
  by_cases c : f = 0
  · subst c
    rw [if_neg (by simp)]
    obtain ⟨hX, _, _⟩ := hx rfl
    obtain ⟨XS, XE⟩ := x
    rcases sets_total p hX with ⟨V, S, T, e, h, hV⟩ | ⟨g, e, hg⟩
    · rw [e]
      simp only [Option.bind_some]
      rw [if_neg (by simp)]
      obtain ⟨b, hb⟩ := family_total hX h
      rw [hb]
      cases b
      · exact ⟨_, _, rfl, fun h => by cases h⟩
      · simp only [Option.bind_some, Bool.not_true, Bool.false_eq_true, if_false]
        obtain ⟨g, hg⟩ := local_total p h hV
        rw [hg]
        simp only [Option.bind_some]
        by_cases c2 : g = 0
        · subst c2; rw [if_neg (by simp)]; exact ⟨_, _, rfl, fun _ => h⟩
        · rw [if_pos (by simpa using c2)]; exact ⟨_, _, rfl, fun h => (c2 h).elim⟩
    · rw [e]
      simp only [Option.bind_some]
      rw [if_pos (by simpa using hg)]; exact ⟨_, _, rfl, fun h => (hg h).elim⟩
  · rw [if_pos (by simpa using c)]; exact ⟨_, _, rfl, fun h => (c h).elim⟩

end Go.AM
