import Derived.Test.YtnnkfanmokeiaaaPM9
set_option linter.unusedVariables false
set_option linter.unusedSimpArgs false
namespace Go.AM
open Go
section
variable (st : List Int)
theorem q8 {k : ah} : ∀ (l a : List Pk) {z : List Pk}, fo (fT st k) a l = some z → (∀ y ∈ l, ∃ m, ex st k y = some m) ∧ ∀ x, x ∈ z ↔ x ∈ a ∨ ∃ y ∈ l, ∃ m, ex st k y = some m ∧ x ∈ m
  | [], a, z, h => by cases h; exact ⟨by simp, fun x => by simp⟩
  | y :: l, a, z, h => by
    simp only [fo, fT] at h
    obtain ⟨s, e1, e2⟩ := Option.bind_eq_some_iff.1 h
    cases hm : ex st k y with
    | none => rw [hm] at e1; cases e1
    | some m =>
      rw [hm] at e1
      cases e1
      obtain ⟨g1, g2⟩ := q8 l (a ++ m) e2
      refine ⟨fun w hw => ?_, fun x => ?_⟩
      · rcases List.mem_cons.1 hw with rfl | hw
        · exact ⟨m, hm⟩
        · exact g1 w hw
      · rw [g2]
        simp only [List.mem_append, List.mem_cons, exists_eq_or_imp]
        constructor
        · rintro ((h | h) | h)
          · exact .inl h
          · exact .inr (.inl ⟨m, hm, h⟩)
          · exact .inr (.inr h)
        · rintro (h | ⟨m', h', h⟩ | h)
          · exact .inl (.inl h)
          · rw [hm] at h'; cases h'; exact .inl (.inr h)
          · exact .inr h
theorem q9 : ∀ (k : Nat) (p : ah), bW p ≤ k → bX 4 p = true → ∀ (q : Pk) {l : List Pk}, ex st p q = some l → ∀ x, x ∈ l ↔ cq st p q x
  | 0, p, h, _, _, _, _ => by have := gC p; omega
  | k + 1, p, h, hf, q, l, he => by
    intro x
    have hd := fm p
    have hop := nF hf
    have hks : (∀ x ∈ p.Kids, bX 4 x = true) → ∀ y ∈ p.Kids, ∀ q {l}, ex st y q = some l → ∀ x, x ∈ l ↔ cq st y q x := fun hk y hy q l hl => q9 k y (by have := fp hy; omega) (hk y hy) q hl
    rw [lB] at he
    rw [j4]
    by_cases h0 : p.Op = 0
    · rw [if_pos h0] at he ⊢; cases he; simp
    rw [if_neg h0] at he ⊢
    by_cases h1 : p.Op = 1
    · rw [if_pos h1] at he ⊢; cases he; simp
    rw [if_neg h1] at he ⊢
    by_cases h2 : p.Op = 2
    · rw [if_pos h2] at he ⊢; cases he; rw [lA]; simp
    rw [if_neg h2] at he ⊢
    by_cases h3 : p.Op = 3
    · rw [if_pos h3] at he ⊢; cases he; rw [lA]; simp
    rw [if_neg h3] at he ⊢
    by_cases h4 : p.Op = 4
    · rw [if_pos h4] at he ⊢
      obtain ⟨y, rfl, hy1, hy2⟩ := nE hf h4
      simp only [ip] at he
      obtain ⟨m, e1, e2⟩ := Option.bind_eq_some_iff.1 he
      cases e2
      have := hks (by simp [hy2]) y (by simp) q e1
      rw [lA]
      simp only [cP, or_false, decide_eq_true_eq]
      constructor
      · rintro ⟨h, rfl⟩
        exact ⟨h, fun z hz => by have := (this z).2 hz; cases this⟩
      · rintro ⟨h, hn⟩
        refine ⟨h, ?_⟩
        cases m with
        | nil => rfl
        | cons z m => exact (hn z ((this z).1 (by simp))).elim
    rw [if_neg h4] at he ⊢
    by_cases h5 : p.Op = 5
    · rw [if_pos h5] at he ⊢; cases he; simp
    rw [if_neg h5] at he ⊢
    have h67 : p.Op = 6 ∨ p.Op = 7 := by omega
    have hks := hks (nD hf h67).1
    by_cases h6 : p.Op = 6
    · rw [if_pos h6] at he ⊢
      rw [j7] at he
      have key : ∀ (ks : List ah) (s : List Pk) (l : List Pk), (∀ y ∈ ks, ∀ q {l}, ex st y q = some l → ∀ x, x ∈ l ↔ cq st y q x) → fo (fU st) s ks = some l → ∀ x, x ∈ l ↔ ∃ y ∈ s, fQ st ks y x := by
        intro ks
        induction ks with
        | nil => intro s l _ h x; cases h; simp [fQ]
        | cons c ks ih =>
          intro s l hk h x
          simp only [fo] at h
          obtain ⟨s1, e1, e2⟩ := Option.bind_eq_some_iff.1 h
          rw [ih s1 l (fun y hy => hk y (by simp [hy])) e2]
          unfold fU at e1
          obtain ⟨z, e3, e4⟩ := Option.bind_eq_some_iff.1 e1
          obtain ⟨g1, g2⟩ := q8 st s [] e3
          have hs1 : ∀ w, w ∈ s1 ↔ ∃ y ∈ s, cq st c y w := fun w => by
            rw [(gY e4).1, nI, g2]
            constructor
            · rintro (h | ⟨y, hy, m, hm, hw⟩)
              · cases h
              · exact ⟨y, hy, ((hk c (by simp)) y hm w).1 hw⟩
            · rintro ⟨y, hy, hw⟩
              obtain ⟨m, hm⟩ := g1 y hy
              exact .inr ⟨y, hy, m, hm, ((hk c (by simp)) y hm w).2 hw⟩
          simp only [fQ]
          constructor
          · rintro ⟨w, hw, h⟩
            obtain ⟨y, hy, hyw⟩ := (hs1 w).1 hw
            exact ⟨y, hy, w, hyw, h⟩
          · rintro ⟨y, hy, w, hyw, h⟩
            exact ⟨w, (hs1 w).2 ⟨y, hy, hyw⟩, h⟩
      rw [key p.Kids [q] l hks he x]
      simp
    · rw [if_neg h6] at he ⊢
      rw [j6] at he
      have key : ∀ (ks : List ah) (s : List Pk) (l : List Pk), (∀ y ∈ ks, ∀ q {l}, ex st y q = some l → ∀ x, x ∈ l ↔ cq st y q x) → fo (fS st q) s ks = some l → ∀ x, x ∈ l ↔ x ∈ s ∨ cP st ks q x := by
        intro ks
        induction ks with
        | nil => intro s l _ h x; cases h; simp [cP]
        | cons c ks ih =>
          intro s l hk h x
          simp only [fo] at h
          obtain ⟨s1, e1, e2⟩ := Option.bind_eq_some_iff.1 h
          rw [ih s1 l (fun y hy => hk y (by simp [hy])) e2]
          unfold fS at e1
          obtain ⟨m, e3, e4⟩ := Option.bind_eq_some_iff.1 e1
          rw [(gY e4).1, nI, List.mem_append, (hk c (by simp)) q e3 x]
          simp only [cP]
          constructor
          · rintro ((h | h) | h)
            · exact .inl h
            · exact .inr (.inl h)
            · exact .inr (.inr h)
          · rintro (h | h | h)
            · exact .inl (.inl h)
            · exact .inl (.inr h)
            · exact .inr h
      rw [key p.Kids [] l hks he x]
      simp
def Gw (n d : Nat) (p : ah) : Prop := bC p ≤ n ∧ bW p ≤ d ∧ bX 4 p = true
theorem ra {o : Int} (ho : o = 6 ∨ o = 7) {n d : Nat} {l : List ah} (h2 : 2 ≤ l.length) (h : ∀ k ∈ l, Gw n d k) : Gw (1 + n * l.length) (1 + d) ⟨o, 0, 0, l⟩ := by
  have key : ∀ l : List ah, (∀ k ∈ l, Gw n d k) → bV l ≤ n * l.length ∧ cO l ≤ d := by
    intro l
    induction l with
    | nil => intro _; simp [bV, cO]
    | cons x l ih =>
      intro hl
      have h1 := hl x (by simp)
      have h2 := ih fun y hy => hl y (by simp [hy])
      have h3 := h1.1
      have h4 := h1.2.1
      simp only [bV, cO, List.length_cons, Nat.mul_succ]
      omega
  obtain ⟨k1, k2⟩ := key l h
  refine ⟨by rw [i8]; simp only; omega, by rw [fm]; simp only; omega, ?_⟩
  have ha : l.all (bX 4) = true := List.all_eq_true.2 fun x hx => (h x hx).2.2
  rw [fA]
  rcases ho with rfl | rfl <;> simp [h2] <;> exact fun x hx => (h x hx).2.2
theorem vr : Gw 1 1 ⟨1, 0, 0, []⟩ := ⟨by simp [bC, bV], by simp [bW, cO], by rw [fA]; simp⟩
theorem vt : Gw 1 1 ⟨0, 0, 0, []⟩ := ⟨by simp [bC, bV], by simp [bW, cO], by rw [fA]; simp⟩
theorem Gw.up {n d n' d' : Nat} {p : ah} (h : Gw n d p) (h1 : n ≤ n') (h2 : d ≤ d') : Gw n' d' p := ⟨by have := h.1; omega, by have := h.2.1; omega, h.2.2⟩
theorem je {l : List ah} {n d : Nat} (hn : n ≤ 300) (hd : d ≤ 20) (q : Pk) (D : Pk → Prop) (h : ∀ p ∈ l, Gw n d p ∧ ∀ x, cq st p q x ↔ D x) : gA st q l = some true := by
  unfold gA
  have := qk (nk st q l) l (fun t y => dM y ∧ (t ≠ [] → ∀ x, x ∈ y ↔ D x)) (fun _ => False) (fun r => r = true) [] ⟨j5, fun h => (h rfl).elim⟩ (fun i p y hx ⟨hy1, hy2⟩ => by
    have hi : i < l.length := (List.getElem?_eq_some_iff.1 hx).1
    obtain ⟨⟨g1, g2, g3⟩, hD⟩ := h p (dj hx)
    have hr : gE p = true := by
      unfold gE; rw [g3]; simp; omega
    have hb : bC p ≤ ck := by unfold ck; omega
    simp only [nk, fk, hx, Option.bind_some, vp st hb q]
    unfold nU
    rw [hr, if_pos rfl]
    cases he : ex st p q with
    | none => exact .inr (.inr ⟨true, rfl, rfl⟩)
    | some z =>
      have hz := q9 st _ p (Nat.le_refl _) g3 q he
      have hs := (nQ st he).2
      have hzD : ∀ x, x ∈ z ↔ D x := fun x => (hz x).trans (hD x)
      refine .inl ⟨z, ?_, hs, fun _ => hzD⟩
      simp only
      by_cases h0 : i = 0
      · subst h0; rfl
      · have hne : l.take i ≠ [] := fun e => by have := congrArg List.length e; rw [List.length_take, List.length_nil] at this; omega
        have e : z = y := nC hs hy1 fun x => (hzD x).trans (hy2 hne x).symm
        subst e
        rw [vq]
        have : decide ((i : Int) > 0) = true := decide_eq_true (by omega)
        rw [this]; rfl)
  rcases this with ⟨s', e, _⟩ | ⟨r, e, rfl⟩
  · rw [e]; rfl
  · rw [e]; rfl
end
def ir (p : ah) : Bool := gE p && decide (bC p ≤ 40) && decide (bW p ≤ 12)
theorem nV {a : ah} (ha : bC a ≤ ck) : i4 [a] = some (ir a) := by
  unfold i4
  rw [show bJ 0 (([a] : List ah).length : Int) = [0] from rfl]
  have g0 : bv [a] 0 = some a := rfl
  simp only [ca, qx, g0, Option.bind_some, uZ ha, qF ha, qH ha, ir]
  by_cases hp : gE a = true
  · by_cases h1 : bC a ≤ 40
    · have e1 : ¬ (40 < (bC a : Int)) := by omega
      by_cases h2 : bW a ≤ 12
      · have e2 : ¬ (12 < (bW a : Int)) := by omega
        simp [hp, h1, h2, e1, e2]
      · have e2 : (12 < (bW a : Int)) := by omega
        simp [hp, h1, h2, e1, e2]
    · have e1 : (40 < (bC a : Int)) := by omega
      simp [hp, h1, e1]
  · simp [hp]
theorem nW {p : ah} (h : ir p = true) : Gw 40 12 p := by
  simp only [ir, gE, Bool.and_eq_true, decide_eq_true_eq] at h
  exact ⟨h.1.2, h.2, h.1.1.2⟩
section
variable {st : List Int} {q x : Pk}
theorem eX {l : List ah} : cq st ⟨7, 0, 0, l⟩ q x ↔ cP st l q x := by rw [j4]; simp
theorem dc {l : List ah} : cq st ⟨6, 0, 0, l⟩ q x ↔ fQ st l q x := by rw [j4]; simp
theorem lC : cq st ⟨1, 0, 0, []⟩ q x ↔ x = q := by rw [j4]; simp
theorem lD : ¬ cq st ⟨0, 0, 0, []⟩ q x := by rw [j4]; simp
end
theorem law_PolicyLaws {l0 l1 l2 : List law05_Step} (h0 : StepOk l0) (h1 : StepOk l1) (h2 : StepOk l2) (st : List Int) (q : Pk) : law07_PolicyLaws ⟨l0, l1, l2⟩ st q = some true := by
  obtain ⟨a, oka, ea, sa⟩ := nA h0
  obtain ⟨b, okb, eb, sb⟩ := nA h1
  obtain ⟨c, okc, ec, sc⟩ := nA h2
  have ba : bC a ≤ ck := by unfold ck; omega
  have bb : bC b ≤ ck := by unfold ck; omega
  have bc : bC c ≤ ck := by unfold ck; omega
  have eS : ∀ l, eU l = some ⟨7, 0, 0, l⟩ := fun l => rfl
  have eQ : ∀ l, eo l = some ⟨6, 0, 0, l⟩ := fun l => rfl
  unfold law07_PolicyLaws
  simp only [vo, Option.bind_some, ea, eb, ec, Bool.not_true, Bool.false_eq_true, if_false, nV ba, nV bb, nV bc, eS, eQ]
  by_cases hl : (st.length : Int) > 6
  · simp [hl]
  cases oka
  · simp
  cases fa : ir a
  · simp
  cases okb
  · simp
  cases fb : ir b
  · simp
  cases okc
  · simp
  cases fc : ir c
  · simp
  have ga := (nW fa).up (show 40 ≤ 40 by omega) (show 12 ≤ 12 by omega)
  have gb := nW fb
  have gc := nW fc
  have two : ∀ {o : Int} (ho : o = 6 ∨ o = 7) {n d : Nat} {u v : ah}, Gw n d u → Gw n d v → Gw (1 + n * 2) (1 + d) ⟨o, 0, 0, [u, v]⟩ := fun ho n d u v hu hv => ra ho (by simp) (by simp [hu, hv])
  have three : ∀ {o : Int} (ho : o = 6 ∨ o = 7) {n d : Nat} {u v w : ah}, Gw n d u → Gw n d v → Gw n d w → Gw (1 + n * 3) (1 + d) ⟨o, 0, 0, [u, v, w]⟩ := fun ho n d u v w hu hv hw => ra ho (by simp) (by simp [hu, hv, hw])
  have s : (7 : Int) = 6 ∨ (7 : Int) = 7 := .inr rfl
  have t : (6 : Int) = 6 ∨ (6 : Int) = 7 := .inl rfl
  have up : ∀ {n d p}, Gw n d p → n ≤ 300 → d ≤ 20 → Gw 300 20 p := fun h h1 h2 => h.up h1 h2
  have u81 : ∀ {p}, Gw 40 12 p → Gw 81 13 p := fun h => h.up (by omega) (by omega)
  have i1 : Gw 40 12 ⟨1, 0, 0, []⟩ := vr.up (by omega) (by omega)
  have d1 : Gw 40 12 ⟨0, 0, 0, []⟩ := vt.up (by omega) (by omega)
  simp only [hl, Bool.not_true, Bool.false_eq_true, if_false, Option.bind_some, decide_false]
  have one : ∀ {k : ah} {y x : Pk}, fQ st [k] y x ↔ cq st k y x := u5
  have m2 : ∀ {P : ah → Prop} {u v : ah}, P u → P v → ∀ p ∈ [u, v], P p := fun h1 h2 p hp => by
    simp only [List.mem_cons, List.not_mem_nil, or_false] at hp
    rcases hp with rfl | rfl <;> assumption
  have m3 : ∀ {P : ah → Prop} {u v w : ah}, P u → P v → P w → ∀ p ∈ [u, v, w], P p := fun h1 h2 h3 p hp => by
    simp only [List.mem_cons, List.not_mem_nil, or_false] at hp
    rcases hp with rfl | rfl | rfl <;> assumption
  have m4 : ∀ {P : ah → Prop} {u v w y : ah}, P u → P v → P w → P y → ∀ p ∈ [u, v, w, y], P p := fun h1 h2 h3 h4 p hp => by
    simp only [List.mem_cons, List.not_mem_nil, or_false] at hp
    rcases hp with rfl | rfl | rfl | rfl <;> assumption
  have m5 : ∀ {P : ah → Prop} {u v w y z : ah}, P u → P v → P w → P y → P z → ∀ p ∈ [u, v, w, y, z], P p := fun h1 h2 h3 h4 h5 p hp => by
    simp only [List.mem_cons, List.not_mem_nil, or_false] at hp
    rcases hp with rfl | rfl | rfl | rfl | rfl <;> assumption
  have N : (300 : Nat) ≤ 300 := Nat.le_refl _
  have M : (20 : Nat) ≤ 20 := Nat.le_refl _
  have A1 := je st N M q (fun x => cq st a q x ∨ cq st b q x ∨ cq st c q x) (m4 (u := ⟨7, 0, 0, [a, ⟨7, 0, 0, [b, c]⟩]⟩) (v := ⟨7, 0, 0, [⟨7, 0, 0, [a, b]⟩, c]⟩) (w := ⟨7, 0, 0, [a, b, c]⟩) (y := ⟨7, 0, 0, [c, b, a]⟩)
    ⟨up (two s (u81 ga) (two s gb gc)) (by omega) (by omega), fun x => by simp only [eX, cP, or_false]⟩
    ⟨up (two s (two s ga gb) (u81 gc)) (by omega) (by omega), fun x => by simp only [eX, cP, or_false, or_assoc]⟩
    ⟨up (three s ga gb gc) (by omega) (by omega), fun x => by simp only [eX, cP, or_false]⟩
    ⟨up (three s gc gb ga) (by omega) (by omega), fun x => by
      simp only [eX, cP, or_false]
      constructor
      · rintro (h | h | h)
        · exact .inr (.inr h)
        · exact .inr (.inl h)
        · exact .inl h
      · rintro (h | h | h)
        · exact .inr (.inr h)
        · exact .inr (.inl h)
        · exact .inl h⟩)
  have A2 := je st N M q (fun x => ∃ y, cq st a q y ∧ ∃ z, cq st b y z ∧ cq st c z x) (m3 (u := ⟨6, 0, 0, [a, ⟨6, 0, 0, [b, c]⟩]⟩) (v := ⟨6, 0, 0, [⟨6, 0, 0, [a, b]⟩, c]⟩) (w := ⟨6, 0, 0, [a, b, c]⟩)
    ⟨up (two t (u81 ga) (two t gb gc)) (by omega) (by omega), fun x => by
      rw [dc]
      constructor
      · rintro ⟨y, h1, z, h2, h3⟩
        have h3 : x = z := h3
        subst h3
        obtain ⟨w, h4, h5⟩ := dc.1 h2
        exact ⟨y, h1, w, h4, one.1 h5⟩
      · rintro ⟨y, h1, z, h2, h3⟩
        exact ⟨y, h1, one.2 (dc.2 ⟨z, h2, one.2 h3⟩)⟩⟩
    ⟨up (two t (two t ga gb) (u81 gc)) (by omega) (by omega), fun x => by
      rw [dc]
      constructor
      · rintro ⟨y, h1, h2⟩
        obtain ⟨w, h4, h5⟩ := dc.1 h1
        exact ⟨w, h4, y, one.1 h5, one.1 h2⟩
      · rintro ⟨y, h1, z, h2, h3⟩
        exact ⟨z, dc.2 ⟨y, h1, one.2 h2⟩, one.2 h3⟩⟩
    ⟨up (three t ga gb gc) (by omega) (by omega), fun x => by
      rw [dc]
      constructor
      · rintro ⟨y, h1, z, h2, h3⟩
        exact ⟨y, h1, z, h2, one.1 h3⟩
      · rintro ⟨y, h1, z, h2, h3⟩
        exact ⟨y, h1, z, h2, one.2 h3⟩⟩)
  have A3 := je st N M q (fun x => cq st a q x) (m5 (u := ⟨7, 0, 0, [a, a]⟩) (v := a) (w := ⟨7, 0, 0, [a, ⟨0, 0, 0, []⟩]⟩) (y := ⟨6, 0, 0, [a, ⟨1, 0, 0, []⟩]⟩) (z := ⟨6, 0, 0, [⟨1, 0, 0, []⟩, a]⟩)
    ⟨up (two s ga ga) (by omega) (by omega), fun x => by simp only [eX, cP, or_false, or_self]⟩
    ⟨up ga (by omega) (by omega), fun x => Iff.rfl⟩
    ⟨up (two s ga d1) (by omega) (by omega), fun x => by simp only [eX, cP, or_false, lD]⟩
    ⟨up (two t ga i1) (by omega) (by omega), fun x => by
      rw [dc]
      constructor
      · rintro ⟨y, h1, h2⟩
        have := lC.1 (one.1 h2)
        subst this; exact h1
      · intro h; exact ⟨x, h, one.2 (lC.2 rfl)⟩⟩
    ⟨up (two t i1 ga) (by omega) (by omega), fun x => by
      rw [dc]
      constructor
      · rintro ⟨y, h1, h2⟩
        have := lC.1 h1
        subst this; exact one.1 h2
      · intro h; exact ⟨q, lC.2 rfl, one.2 h⟩⟩)
  have A4 := je st N M q (fun x => False) (m3 (u := ⟨6, 0, 0, [a, ⟨0, 0, 0, []⟩]⟩) (v := ⟨6, 0, 0, [⟨0, 0, 0, []⟩, a]⟩) (w := ⟨0, 0, 0, []⟩)
    ⟨up (two t ga d1) (by omega) (by omega), fun x => by
      rw [dc]
      exact ⟨fun ⟨y, _, h⟩ => lD (one.1 h), fun h => h.elim⟩⟩
    ⟨up (two t d1 ga) (by omega) (by omega), fun x => by
      rw [dc]
      exact ⟨fun ⟨y, h, _⟩ => lD h, fun h => h.elim⟩⟩
    ⟨up d1 (by omega) (by omega), fun x => ⟨fun h => lD h, fun h => h.elim⟩⟩)
  have A5 := je st N M q (fun x => ∃ y, cq st a q y ∧ (cq st b y x ∨ cq st c y x)) (m2 (u := ⟨6, 0, 0, [a, ⟨7, 0, 0, [b, c]⟩]⟩) (v := ⟨7, 0, 0, [⟨6, 0, 0, [a, b]⟩, ⟨6, 0, 0, [a, c]⟩]⟩)
    ⟨up (two t (u81 ga) (two s gb gc)) (by omega) (by omega), fun x => by
      rw [dc]
      constructor
      · rintro ⟨y, h1, h2⟩
        have := eX.1 (one.1 h2)
        simp only [cP, or_false] at this
        exact ⟨y, h1, this⟩
      · rintro ⟨y, h1, h2⟩
        exact ⟨y, h1, one.2 (eX.2 (by simp only [cP, or_false]; exact h2))⟩⟩
    ⟨up (two s (two t ga gb) (two t ga gc)) (by omega) (by omega), fun x => by
      rw [eX]
      simp only [cP, or_false]
      constructor
      · rintro (h | h)
        · obtain ⟨y, h1, h2⟩ := dc.1 h
          exact ⟨y, h1, .inl (one.1 h2)⟩
        · obtain ⟨y, h1, h2⟩ := dc.1 h
          exact ⟨y, h1, .inr (one.1 h2)⟩
      · rintro ⟨y, h1, h | h⟩
        · exact .inl (dc.2 ⟨y, h1, one.2 h⟩)
        · exact .inr (dc.2 ⟨y, h1, one.2 h⟩)⟩)
  have A6 := je st N M q (fun x => (∃ y, cq st a q y ∧ cq st c y x) ∨ ∃ y, cq st b q y ∧ cq st c y x) (m2 (u := ⟨6, 0, 0, [⟨7, 0, 0, [a, b]⟩, c]⟩) (v := ⟨7, 0, 0, [⟨6, 0, 0, [a, c]⟩, ⟨6, 0, 0, [b, c]⟩]⟩)
    ⟨up (two t (two s ga gb) (u81 gc)) (by omega) (by omega), fun x => by
      rw [dc]
      constructor
      · rintro ⟨y, h1, h2⟩
        have := eX.1 h1
        simp only [cP, or_false] at this
        rcases this with h | h
        · exact .inl ⟨y, h, one.1 h2⟩
        · exact .inr ⟨y, h, one.1 h2⟩
      · rintro (⟨y, h1, h2⟩ | ⟨y, h1, h2⟩)
        · exact ⟨y, eX.2 (by simp only [cP, or_false]; exact .inl h1), one.2 h2⟩
        · exact ⟨y, eX.2 (by simp only [cP, or_false]; exact .inr h1), one.2 h2⟩⟩
    ⟨up (two s (two t ga gc) (two t gb gc)) (by omega) (by omega), fun x => by
      rw [eX]
      simp only [cP, or_false]
      constructor
      · rintro (h | h)
        · obtain ⟨y, h1, h2⟩ := dc.1 h
          exact .inl ⟨y, h1, one.1 h2⟩
        · obtain ⟨y, h1, h2⟩ := dc.1 h
          exact .inr ⟨y, h1, one.1 h2⟩
      · rintro (⟨y, h1, h2⟩ | ⟨y, h1, h2⟩)
        · exact .inl (dc.2 ⟨y, h1, one.2 h2⟩)
        · exact .inr (dc.2 ⟨y, h1, one.2 h2⟩)⟩)
  simp only [A1, A2, A3, A4, A5, A6, Option.bind_some, if_true]
end Go.AM
