import Derived.Test.YtfjelgjfbjjopaaDoorNSm
set_option linter.unusedVariables false
set_option linter.unusedSimpArgs false
namespace Go.AM
open Go
theorem wd {α ρ : Type} {step : Nat → α → Option ρ} : ∀ {l : List α} {a : Nat}, ef step a l = none → ∀ (j : Nat) x, l[j]? = some x → step (a + j) x = none
  | [], _, _, j, x, h => by simp at h
  | y :: l, a, h, j, x, hj => by
    simp only [ef] at h
    cases hs : step a y with
    | some r => rw [hs] at h; cases h
    | none =>
      rw [hs] at h
      cases j with
      | zero => simp at hj; subst hj; exact hs
      | succ j =>
        have := wd h j x (by simpa using hj)
        rwa [show a + 1 + j = a + (j + 1) by omega] at this
theorem we {S : List Int} (c : Nat → Nat) : ∀ (PL : List (List Int)) (k s : Nat), (∀ (j : Nat) l, PL[j]? = some l → ((c (k + j) : Nat) : Int) ∈ l ∧ c (k + j) < 2 ^ 64) → s < 2 ^ 64 → fu S PL (s : Int) = true →
    ∃ u : Nat, u < 2 ^ 64 ∧ dE S (u : Int) = true ∧ iy s u ∧ ∀ j, j < PL.length → iy (c (k + j)) u
  | [], k, s, _, hs, h => ⟨s, hs, h, fun i hi => hi, fun j hj => by simp at hj⟩
  | l :: PL, k, s, hc, hs, h => by
    obtain ⟨h1, h2⟩ := hc 0 l rfl
    rw [Nat.add_zero] at h1 h2
    simp only [fu, List.all_eq_true] at h
    have h3 := h _ h1
    rw [iU hs h2] at h3
    obtain ⟨u, g1, g2, g3, g4⟩ := we c PL (k + 1) (s ||| c k) (fun j l' hj => by
      have := hc (j + 1) l' (by simpa using hj)
      rwa [show k + 1 + j = k + (j + 1) by omega]) (Nat.or_lt_two_pow hs h2) h3
    refine ⟨u, g1, g2, fun i hi => g3 i (by rw [Nat.testBit_or, hi]; rfl), fun j hj => ?_⟩
    cases j with
    | zero => exact fun i hi => g3 i (by rw [Nat.add_zero] at hi; rw [Nat.testBit_or, hi]; simp)
    | succ j =>
      have := g4 j (by simpa using hj)
      rwa [show k + 1 + j = k + (j + 1) by omega] at this
theorem mL {S : List Int} (hU : ∀ s ∈ S, eD s) {x : Nat} (hx : x < 2 ^ 64) : dE S (x : Int) = true ↔ ∃ y : Nat, (y : Int) ∈ S ∧ y < 2 ^ 64 ∧ iy x y := by
  unfold dE
  rw [List.any_eq_true]
  constructor
  · rintro ⟨y, hy, h⟩
    obtain ⟨y, rfl, hy64⟩ := hU y hy
    exact ⟨y, hy, hy64, (mI hx hy64).1 h⟩
  · rintro ⟨y, hy, hy64, h⟩
    exact ⟨_, hy, (mI hx hy64).2 h⟩
theorem iC.u {p : api_Program} {n : aL} {q : GS} {XS : List (List Int)} {XE : List az} (h : iC p n q XS XE) : ∀ s ∈ q.S, eD s := fun s hs => by
  obtain ⟨z, z1, z2⟩ := h.inv.sin s hs; exact ⟨z, z1, z2.1⟩
theorem iC.both {p : api_Program} {n : aL} {q : GS} {XS : List (List Int)} {XE : List az} (h : iC p n q XS XE) {a b : Nat} (ha : a < q.V.length) (hb : b < q.V.length)
    (ca : dE q.S ((2 ^ a : Nat) : Int) = true) (cb' : dE q.S ((2 ^ b : Nat) : Int) = true) (hsw : eP p q.V a ≠ eP p q.V b) : dE q.S ((2 ^ a ||| 2 ^ b : Nat) : Int) = true := by
  have hU := h.u
  have hv := h.inv.v64
  have a64 := eC (show a < 64 by omega)
  have b64 := eC (show b < 64 by omega)
  obtain ⟨xa, m1, m2, m3⟩ := (mL hU a64).1 ca
  obtain ⟨xb, n1, n2, n3⟩ := (mL hU b64).1 cb'
  obtain ⟨ga, ga1, ga2, ga3⟩ := rE hU (2 ^ 64) xa m1 m2 (by omega)
  obtain ⟨gb, gb1, gb2, gb3⟩ := rE hU (2 ^ 64) xb n1 n2 (by omega)
  have hpl := jv p q.V q.V.length
  have hsin := wc (p := p) hv
  have hloc := h.loc
  obtain ⟨ia, hia, ea⟩ := List.mem_iff_getElem.1 (hpl.all a ha)
  obtain ⟨ib, hib, eb⟩ := List.mem_iff_getElem.1 (hpl.all b hb)
  have hne : ia ≠ ib := by rintro rfl; rw [ea] at eb; exact hsw eb
  have hWa : (ck p q.V q.V.length).1[ia]? = some (eP p q.V a) := by rw [bw hia, ea]
  have hWb : (ck p q.V q.V.length).1[ib]? = some (eP p q.V b) := by rw [bw hib, eb]
  have hlen := hpl.len
  have hbit := hpl.bit
  generalize (ck p q.V q.V.length).1 = W at *
  generalize (ck p q.V q.V.length).2 = L at *
  have hLa := bw (show ia < L.length by omega)
  have hLb := bw (show ib < L.length by omega)
  obtain ⟨u, u1, u2, _, u3⟩ := we (S := q.S) (fun k => (if k = ib then gb else ga) &&& (L[k]?.getD 0)) ((bV L).map (cH q.S)) 0 0 (fun j l hj => by
    rw [List.getElem?_map] at hj
    cases hj2 : (bV L)[j]? with
    | none => rw [hj2] at hj; cases hj
    | some y =>
      rw [hj2] at hj
      have hl := (cd hj).symm
      subst hl
      unfold bV at hj2
      rw [List.getElem?_map] at hj2
      cases hj3 : L[j]? with
      | none => rw [hj3] at hj2; cases hj2
      | some z =>
        rw [hj3] at hj2
        have hy := (cd hj2).symm
        subst hy
        have hz := hsin z (cn hj3)
        simp only [Nat.zero_add, hj3, Option.getD_some]
        by_cases c : j = ib
        · rw [if_pos c]; exact ⟨oU.2 ⟨_, gb1, (gl gb2 hz).symm⟩, Nat.and_lt_two_pow _ hz⟩
        · rw [if_neg c]; exact ⟨oU.2 ⟨_, ga1, (gl ga2 hz).symm⟩, Nat.and_lt_two_pow _ hz⟩) (by omega) (by simpa using hloc)
  have ua : u.testBit a = true := by
    refine u3 ia (by rw [List.length_map, fF]; omega) a ?_
    simp only [Nat.zero_add, hLa, Option.getD_some]
    rw [if_neg hne, Nat.testBit_and, ga3 a (m3 a (by simp)), (hbit ia _ _ hWa hLa a).2 ⟨ha, rfl⟩]; rfl
  have ub : u.testBit b = true := by
    refine u3 ib (by rw [List.length_map, fF]; omega) b ?_
    simp only [Nat.zero_add, hLb, Option.getD_some]
    rw [if_pos trivial, Nat.testBit_and, gb3 b (n3 b (by simp)), (hbit ib _ _ hWb hLb b).2 ⟨hb, rfl⟩]; rfl
  obtain ⟨y, y1, y2, y3⟩ := (mL hU u1).1 u2
  refine (mL hU (Nat.or_lt_two_pow a64 b64)).2 ⟨y, y1, y2, fun i hi => y3 i ?_⟩
  rw [Nat.testBit_or, Nat.testBit_two_pow, Nat.testBit_two_pow] at hi
  simp only [Bool.or_eq_true, decide_eq_true_eq] at hi
  rcases hi with rfl | rfl
  · exact ua
  · exact ub
theorem BQ {a : Nat} (h : a < 64) : j6 ([(a : Int)] : List Int) = some ((2 ^ a : Nat) : Int) := by
  unfold j6
  have := iU (x := 0) (by omega) (eC h)
  rw [show (([(a : Int)] : List Int).length : Int) = ((0 + 1 : Nat) : Int) from rfl, show (0 : Int) = ((0 : Nat) : Int) from rfl, il, iP]
  simp only [cB, ow, bM, show ([(a : Int)] : List Int)[0]? = some (a : Int) from rfl, Option.bind_some, kV h]
  rw [this]; simp
theorem BR {a b : Nat} (ha : a < 64) (hb : b < 64) : j6 ([(a : Int), (b : Int)] : List Int) = some ((2 ^ a ||| 2 ^ b : Nat) : Int) := by
  unfold j6
  have h1 := iU (x := 0) (by omega) (eC ha)
  rw [Nat.zero_or] at h1
  have h2 := iU (eC ha) (eC hb)
  rw [show (([(a : Int), (b : Int)] : List Int).length : Int) = ((0 + (1 + 1) : Nat) : Int) from rfl, show (0 : Int) = ((0 : Nat) : Int) from rfl, il]
  simp only [cB, ow, bM, show ([(a : Int), (b : Int)] : List Int)[0]? = some (a : Int) from rfl, Option.bind_some, kV ha]
  rw [h1, show ((0 + 1 : Nat) : Int) = ((1 : Nat) : Int) from rfl, show ((0 + (1 + 1) : Nat) : Int) = ((1 + (0 + 1) : Nat) : Int) from rfl, il, iP]
  simp only [cB, ow, bM, show ([(a : Int), (b : Int)] : List Int)[1]? = some (b : Int) from rfl, Option.bind_some, kV hb]
  rw [h2]
theorem wg {n : aL} (hU : ∀ s ∈ n.Sets, eD s) {e : Nat} (he : e < 64) : mo (e : Int) n = some (dE n.Sets ((2 ^ e : Nat) : Int)) := by
  unfold mo
  rw [BQ he]
  have hp : 0 < 2 ^ e := Nat.two_pow_pos e
  have hne : (((2 ^ e : Nat) : Int) != 0) = true := by simp only [bne_iff_ne, ne_eq]; omega
  simp only [Option.bind_some, hne, if_true]
  rw [mJ hU ⟨_, rfl, eC he⟩]
  rfl
theorem iC.clash {p : api_Program} {n : aL} {q : GS} {XS : List (List Int)} {XE : List az} (h : iC p n q XS XE) {a b : Nat} (ha : a < q.V.length) (hb : b < q.V.length) :
    ∃ c, mq n (a : Int) (b : Int) = some c ∧ (c = true → eP p q.V a = eP p q.V b) := by
  have hv := h.inv.v64
  have hU := h.u
  have hn : n.Sets = q.S := by rw [h.eq]
  have hUn : ∀ s ∈ n.Sets, eD s := by rw [hn]; exact hU
  unfold mq
  rw [wg hUn (show a < 64 by omega), wg hUn (show b < 64 by omega), BR (show a < 64 by omega) (show b < 64 by omega)]
  simp only [Option.bind_some]
  rw [mJ hUn ⟨_, rfl, Nat.or_lt_two_pow (eC (by omega)) (eC (by omega))⟩, hn]
  cases c0 : ((a : Int) != (b : Int)) with
  | false => exact ⟨_, rfl, fun h => by cases h⟩
  | true =>
    cases c1 : dE q.S ((2 ^ a : Nat) : Int) with
    | false => exact ⟨_, rfl, fun h => by cases h⟩
    | true =>
      cases c2 : dE q.S ((2 ^ b : Nat) : Int) with
      | false => exact ⟨_, rfl, fun h => by cases h⟩
      | true =>
        refine ⟨_, rfl, fun hc => Classical.byContradiction fun hne => ?_⟩
        have := h.both ha hb c1 c2 hne
        rw [this] at hc
        cases hc
theorem iC.union {p : api_Program} {n : aL} {q : GS} {XS : List (List Int)} {XE : List az} (h : iC p n q XS XE) {i : Nat} {s t : Int} (hi : q.S[i]? = some s) (ht : t ∈ q.S.take i) :
    (bY q.S (ct .u64 s t)).isSome = dE q.S (ct .u64 s t) := by
  have hf := wd h.fam i s hi
  rw [Nat.zero_add] at hf
  unfold eO at hf
  split at hf
  · cases hf
  · rename_i c
    simp only [Bool.or_eq_true, not_or, Bool.not_eq_true] at c
    have c2 := c.2
    unfold oP at c2
    rw [List.any_eq_false] at c2
    have c3 := c2 t ht
    cases hx : bY q.S (ct .u64 s t) with
    | none =>
      rw [hx] at c3
      simp only [Option.isNone_none, Bool.true_and, Bool.not_eq_true] at c3
      rw [c3]; rfl
    | some k =>
      obtain ⟨z, z1, z2⟩ := h.u _ (cn (fq hx))
      rw [z1]
      rw [(mL h.u z2).2 ⟨z, by rw [← z1]; exact cn (fq hx), z2, fun i hi => hi⟩]; rfl
theorem BS {p : api_Program} {n : aL} {q : GS} {XS : List (List Int)} {XE : List az} (h : iC p n q XS XE) {i : Nat} {s : Int} (hi : q.S[i]? = some s) : qU (n, 0) (i : Int) () = some (.next ()) := by
  obtain ⟨x, rfl, hx⟩ := h.inv.sin s (cn hi)
  have hil := (List.getElem?_eq_some_iff.1 hi).1
  have hn : n.Sets = q.S := by rw [h.eq]
  unfold qU
  have hcut : fC q.S 0 (i : Int) = some (q.S.take i) := by
    unfold fC; rw [if_pos (by omega)]; simp
  simp only [hn, bM, hi, Option.bind_some, hcut]
  -- the set that it came of
  obtain ⟨jc, hjc⟩ : ∃ jc : Nat, 0 < i → ∃ (y e : Nat), jc < i ∧ q.S[jc]? = some (y : Int) ∧ e < 64 ∧ x = y ||| 2 ^ e := by
    by_cases c : 0 < i
    · obtain ⟨j, y, e, h1, h2, h3, h4⟩ := h.inv.came i c _ hi
      exact ⟨j, fun _ => ⟨y, e, h1, h2, h3, by omega⟩⟩
    · exact ⟨0, fun c' => (c c').elim⟩
  have hlen : (q.S.take i).length = i := by simp; omega
  have hloop := mc (qT (n, 0) x (q.S.take i)) (q.S.take i) (fun l y => (i = 0 ∨ (0 < i ∧ jc < l.length)) → y = true) (fun _ => False) (fun _ => False) ((i : Int) == 0) (by
    intro hc
    rcases hc with rfl | ⟨_, hc⟩
    · rfl
    · simp at hc) (by
    rintro j t y hj hP
    left
    have hjl := (List.getElem?_eq_some_iff.1 hj).1
    rw [hlen] at hjl
    have hj' : q.S[j]? = some t := by
      rw [List.getElem?_take] at hj
      simpa [hjl] using hj
    obtain ⟨t, rfl, ht⟩ := h.inv.sin t (cn hj')
    have htk : ((t : Nat) : Int) ∈ q.S.take i := cn hj
    have hun := h.union hi htk
    have hor := v7 ⟨x, rfl, hx.1⟩ ⟨t, rfl, ht.1⟩
    obtain ⟨en, g1, g2, g3⟩ := vU (T := TT XS q.A) ⟨h.inv.v64, h.u⟩ (cn hj')
    rw [← h.eq] at g1
    -- the look at one set
    have hlook : ∃ y38 : Bool, ((if y then some true else (if ((fm .u64 (t : Int) (x : Int)) == 0) then (mx (fm .u64 (x : Int) (t : Int))).bind fun r35 =>
        (if ((r35.length : Int) == 1) then (j3 n (t : Int)).bind fun r37 =>
        some ((aA .u64 r37 (fm .u64 (x : Int) (t : Int))) == (fm .u64 (x : Int) (t : Int))) else some false) else some false)) : Option Bool) = some y38 ∧ ((i = 0 ∨ (0 < i ∧ jc < j + 1)) → y38 = true) := by
      cases y with
      | true => exact ⟨true, rfl, fun _ => rfl⟩
      | false =>
        have hnot : ¬ (i = 0 ∨ (0 < i ∧ jc < ((q.S.take i).take j).length)) := fun hc => by have := hP hc; cases this
        have htj : ((q.S.take i).take j).length = j := by rw [List.length_take, hlen]; omega
        rw [htj] at hnot
        simp only [Bool.false_eq_true, if_false]
        rw [mz ht.1 hx.1, mz hx.1 ht.1, zX (my hx.1 t), g1]
        simp only [Option.bind_some, fF]
        by_cases c : i = 0 ∨ (0 < i ∧ jc < j + 1)
        · have hi0 : 0 < i := by omega
          have hje : jc = j := by omega
          subst hje
          obtain ⟨y, e, k1, k2, k3, k4⟩ := hjc hi0
          rw [hj'] at k2
          have hyt : y = t := by have := cd k2; omega
          subst hyt
          have hte : y.testBit e = false := by
            cases hb : y.testBit e with
            | false => rfl
            | true =>
              exfalso
              have : x = y := by
                rw [k4]
                apply Nat.eq_of_testBit_eq
                intro k
                rw [fI]
                by_cases c : e = k
                · subst c; simp [hb]
                · simp [c]
              rw [this] at hi
              have := ke h.inv.nd hi hj'
              omega
          have hsub : d9 y x = 0 := (rq y x).2 fun k hk => by rw [k4, fI, hk]; rfl
          have hmore : d9 x y = 2 ^ e := by
            apply Nat.eq_of_testBit_eq
            intro k
            rw [jn, k4, fI, Nat.testBit_two_pow]
            by_cases c : e = k
            · subst c; simp [hte]
            · simp [c]
          have heV : e < q.V.length := hx.2 e (by rw [k4, fI]; simp)
          have hen := (g3 e).2 ⟨heV, hte, by rw [← k4]; exact cn hi⟩
          refine ⟨true, ?_, fun _ => rfl⟩
          have hl1 : (bits (2 ^ e)).length = 1 := (vR (eC k3)).2 ⟨e, k3, rfl⟩
          rw [hsub, hmore, hl1]
          have hand : en &&& 2 ^ e = 2 ^ e := by
            rw [Nat.and_comm]
            exact (mH _ _).2 fun k hk => by
              rw [Nat.testBit_two_pow, decide_eq_true_eq] at hk
              subst hk; exact hen
          rw [gl g2 (eC k3), hand]
          simp
        · generalize d9 t x = m1
          generalize d9 x t = m2
          by_cases d1 : (((m1 : Nat) : Int) == 0) = true
          · by_cases d2 : (((bits m2).length : Int) == 1) = true
            · simp only [d1, d2, if_true]
              exact ⟨_, rfl, fun hc => (c hc).elim⟩
            · have d2 : (((bits m2).length : Int) == 1) = false := by simpa using d2
              simp only [d1, d2, if_true, Bool.false_eq_true, if_false]
              exact ⟨_, rfl, fun hc => (c hc).elim⟩
          · have d1 : (((m1 : Nat) : Int) == 0) = false := by simpa using d1
            simp only [d1, Bool.false_eq_true, if_false]
            exact ⟨_, rfl, fun hc => (c hc).elim⟩
    obtain ⟨y38, e1, e2⟩ := hlook
    refine ⟨y38, ?_, ?_⟩
    · simp only [qT, bM, hj, Option.bind_some]
      rw [e1]
      simp only [Option.bind_some, ru, hn]
      rw [mJ (n := n) (by rw [hn]; exact h.u) hor, hn, hun]
      simp
    · intro hc
      apply e2
      rcases hc with hc | ⟨hc1, hc2⟩
      · exact .inl hc
      · refine .inr ⟨hc1, ?_⟩
        rw [List.length_append, List.length_take, hlen, List.length_singleton] at hc2
        omega)
  rw [hlen] at hloop ⊢
  rcases hloop with ⟨y, e, hP | c⟩ | ⟨r, e, c⟩
  · rw [e]
    have hy : y = true := hP (by
      by_cases c : i = 0
      · exact .inl c
      · have hi0 : 0 < i := by omega
        obtain ⟨_, _, k1, _⟩ := hjc hi0
        exact .inr ⟨hi0, k1⟩)
    rw [hy]; rfl
  · exact c.elim
  · exact c.elim
theorem lawNesFamily (a0 : api_Program) (hn : lg a0) : law12_NesFamily a0 = some true := by
  unfold law12_NesFamily
  rw [zS]
  simp only [Option.bind_some, Bool.not_true, Bool.false_eq_true, if_false]
  obtain ⟨b, hb, hsm⟩ := Ac (api_Program.mk a0.Init (api_Pol.mk 0 0 0 []) a0.Rules)
  rw [hb]
  cases b with
  | false => rfl
  | true =>
    simp only [Option.bind_some, Bool.not_true, Bool.false_eq_true, if_false]
    obtain ⟨n, e, e1, _, h1, h2⟩ := BP (api_Program.mk a0.Init (api_Pol.mk 0 0 0 []) a0.Rules) rfl (hsm rfl) hn
    rw [e1]
    simp only [Option.bind_some]
    by_cases c : ¬ e = 0
    · have hbe : (e != 0) = true := by simpa using c
      simp only [hbe, if_true]
      rw [h1 c]; rfl
    have c := Classical.not_not.1 c
    subst c
    have hbe : ((0 : Int) != 0) = false := rfl
    simp only [hbe, Bool.false_eq_true, if_false]
    obtain ⟨q, XS, XE, h⟩ := h2 rfl
    have hS : n.Sets = q.S := by rw [h.eq]
    have hV : n.Events = q.V := by rw [h.eq]
    have hT : n.States.length = q.S.length := by rw [h.eq]; show (TT XS q.A).length = _; rw [rk, h.inv.len]
    have hpos : 0 < q.S.length := (List.getElem?_eq_some_iff.1 h.inv.s0).1
    have h256 := h.inv.s256
    have h64 := h.inv.v64
    have b1 : ((q.S.length : Int) == 0) = false := by simp only [beq_eq_false_iff_ne, ne_eq]; omega
    have b2 : aN q.S 0 = some 0 := by rw [show (0 : Int) = ((0 : Nat) : Int) from rfl, bM]; exact h.inv.s0
    have b3 : ((q.S.length : Int) != (n.States.length : Int)) = false := by rw [hT]; simp
    have b4 : decide ((q.S.length : Int) > 256) = false := by simp only [decide_eq_false_iff_not]; omega
    have b5 : decide ((q.V.length : Int) > 64) = false := by simp only [decide_eq_false_iff_not]; omega
    simp only [hS, hV, b1, b2, b3, b4, b5, hbe, Bool.false_eq_true, if_false, Option.bind_some]
    rw [fG (fun _ => false) false q.S _ (fun i s hi => by rw [BS h hi]; rfl)]
    have hA : (q.S.any fun _ => false) = false := by simp
    rw [hA]
    simp only [Bool.false_eq_true, if_false, eN, Option.bind_some]
    rw [ry (fun _ => false) false q.V.length _ (fun a ha => by
      unfold uU
      simp only [hV]
      rw [ry (fun _ => false) (Br.ret false) q.V.length _ (fun b hb => by
        obtain ⟨cl, e2, e3⟩ := h.clash ha hb
        have s1 := rz (S := q.S) (T := TT XS q.A) h.w h.inv.rul ha
        have s2 := rz (S := q.S) (T := TT XS q.A) h.w h.inv.rul hb
        rw [← h.eq] at s1 s2
        simp only [uT, s1, s2, e2, Option.bind_some, Bool.not_true, Bool.false_eq_true, if_false]
        cases cl with
        | false => rfl
        | true => rw [e3 rfl]; simp)]
      have hB : ((List.range q.V.length).any fun _ => false) = false := by simp
      rw [hB]; rfl)]
    have hB : ((List.range q.V.length).any fun _ => false) = false := by simp
    rw [hB]; rfl
end Go.AM
