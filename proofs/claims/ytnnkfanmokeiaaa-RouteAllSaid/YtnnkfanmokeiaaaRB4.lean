import Derived.Test.YtnnkfanmokeiaaaRB2
/-  Several texts in one. -/
section
set_option linter.unusedVariables false
set_option linter.unusedSimpArgs false
namespace Go.AM
open Go
def mP (m : List c5) : List (Int × Int) := m.map fun p => (p.F, p.N)
theorem wb {f : Nat} (h : f ≤ 1000) : mA (f : Int) = some ((f : Int) + 1) := by
  unfold mA
  rw [jB (by omega) (by omega), qo]
  congr 1; omega
theorem wc {w : bK} {f d : Nat} (hf : w.From = f) (hd : w.To = d) (h1 : f ≤ 1000) (h2 : d ≤ 1000) (hm : w.Match.length ≤ 1000) (l : List al) (hl : l.length ≤ 1000) : mB w l = some (l ++ (cG ((f : Int) + 1) ((d : Int) + 1) w.Match).map fc) := by
  unfold mB
  rw [hf, hd, wb h1, wb h2]
  simp only [Option.bind_some, jr]
  rw [dW (by simp; omega)]
  simp only [Option.bind_some]
  obtain ⟨z, e, hz⟩ := jq (qy w) w.Match (fun m s => s = l ++ [al.mk 2 2 ((f : Int) + 1) [], al.mk 2 3 ((d : Int) + 1) []] ++ (mP m).map fc) (l ++ [al.mk 2 2 ((f : Int) + 1) [], al.mk 2 3 ((d : Int) + 1) []]) (by simp [mP]) (fun i x s hx hP => by
    have hi := (List.getElem?_eq_some_iff.1 hx).1
    refine ⟨_, ?_, rfl⟩
    simp only [qy, cd, hx, Option.bind_some, jr]
    subst hP
    rw [dW (by simp [mP]; omega)]
    simp [mP, fc])
  rw [e, hz]
  simp [cG, mP, fc]
theorem Bi {l : List al} : mC l = some (eK l) := by
  unfold mC
  match l with
  | [] => rfl
  | [x] => rfl
  | x :: y :: r =>
    rw [if_neg (by simp; omega), if_neg (by simp; omega)]
    rfl
theorem o8 (c : Nat) : ∀ (l : List al), (∀ x ∈ l, cE x ≤ c) → cR l ≤ l.length * c
  | [], _ => by rw [cR]; simp
  | x :: l, h => by
    rw [cR]
    have h1 := h x (by simp)
    have h2 := o8 c l fun y hy => h y (by simp [hy])
    rw [List.length_cons, Nat.add_mul]; omega
theorem Bj (p : Int × Int) : cE (fc p) = 1 := by rw [gS]; simp [fc, cR]
theorem wd (l : List (Int × Int)) : cR (l.map fc) ≤ l.length := by
  have := o8 1 (l.map fc) (fun x hx => by
    obtain ⟨p, _, rfl⟩ := List.mem_map.1 hx
    rw [Bj]; exact Nat.le_refl _)
  simpa using this
theorem Bk (h : f7) : cE (dE h) ≤ 5 + h.m.length := by
  rw [gS]
  simp only [dE, oO]
  have h1 := wd ((0, h.sw) :: cG h.src h.dst h.m)
  have h2 : cR [(⟨5, 1, h.pt, []⟩ : al)] = 1 := by rw [cR, cR, gS]; simp [cR]
  rw [h2]
  simp [cG] at h1 ⊢; omega
theorem Bl (b : Bn) : cE (dF b) ≤ 3 + b.m.length := by
  rw [gS]
  simp only [dF]
  have h1 := wd (cG b.src b.dst b.m)
  simp [cG] at h1 ⊢; omega
theorem we (l : List al) : cE (eK l) ≤ 1 + cR l := by
  match l with
  | [] => rw [gS]; simp [eK, cR]
  | [x] => rw [cR]; simp [eK]; omega
  | x :: y :: r => rw [gS]; simp [eK]
theorem Bm (ws bs : List al) : cE (gD ws bs) ≤ 4 + cR ws + cR bs := by
  unfold gD
  have h1 := we ws
  have h2 := we bs
  split
  · omega
  · rw [gS]
    simp only [cR]
    rw [gS]
    simp only [cR]
    omega
section
variable (t : api_Topo)
def kB (d : Nat) (way : List Int) (i : Nat) : Option Int :=
  if i + 1 < way.length then (be way (i : Int)).bind fun x => (be way ((i : Int) + 1)).bind fun y => (k9 t x y).map (·.1) else (be t.Hosts (d : Int)).map (·.Pt)
structure gV (f d : Nat) (m : List c5) (way : List Int) (j : Nat) (h : f7) : Prop where
  at_ : ∃ u : Nat, way[j]? = some (u : Int) ∧ t.Switches[u]? = some h.sw
  src : h.src = (f : Int) + 1
  dst : h.dst = (d : Int) + 1
  m : h.m = m
  pt : kB t d way j = some h.pt
structure dJ (w : bK) (f d : Nat) (way : List Int) : Prop where
  hf : w.From = f
  hd : w.To = d
  lf : f < t.Hosts.length
  ld : d < t.Hosts.length
  ne : f ≠ d
  ok : ∀ p ∈ w.Match, 4 ≤ p.F ∧ p.F ≤ 7
  wy : km t (f : Int) (d : Int) = some (way, true)
theorem wg (wh : Wh t) {f d : Nat} (hf : f < t.Hosts.length) (hd : d < t.Hosts.length) : ∃ (p q : api_Port) (a b : Nat), t.Hosts[f]? = some p ∧ t.Hosts[d]? = some q ∧ pl t.Switches p.Sw = a ∧ pl t.Switches q.Sw = b ∧ a < t.Switches.length ∧ b < t.Switches.length ∧ km t (f : Int) (d : Int) = iE t a b := by
  have gp : t.Hosts[f]? = some t.Hosts[f] := bU hf
  have gq : t.Hosts[d]? = some t.Hosts[d] := bU hd
  generalize t.Hosts[f] = p at gp
  generalize t.Hosts[d] = q at gq
  obtain ⟨a, ha⟩ := Int.eq_ofNat_of_zero_le (wh.hp p (c7 gp))
  obtain ⟨b, hb⟩ := Int.eq_ofNat_of_zero_le (wh.hp q (c7 gq))
  have ha : pl t.Switches p.Sw = (a : Int) := ha
  have hb : pl t.Switches q.Sw = (b : Int) := hb
  refine ⟨p, q, a, b, gp, gq, ha, hb, jD ha, jD hb, ?_⟩
  have e1 : fX (a : Int) 0 = a := by unfold fX; split <;> omega
  have e2 : fX (b : Int) 0 = b := by unfold fX; split <;> omega
  have e3 : decide ((a : Int) ≥ 0) = true := by simp
  have e4 : decide ((b : Int) ≥ 0) = true := by simp
  unfold km
  simp only [cd, gp, gq, Option.bind_some, vM, ha, hb, e1, e2, e3, e4, Bool.not_true, Bool.or_false, Bool.false_eq_true, if_false]
  cases iE t a b with
  | none => rfl
  | some r => rfl
structure kC (f d : Nat) (way : List Int) (k : Nat) (D : List Int) (q : api_Port) (a b : Nat) : Prop where
  hq : t.Hosts[d]? = some q
  hb : pl t.Switches q.Sw = b
  la : a < t.Switches.length
  lb : b < t.Switches.length
  ds : Ds (cJ t (-1)) t.Switches.length b D
  da : D[a]? = some (k : Int)
  wr : ∃ l, way = (a : Int) :: l ∧ fD (cJ t (-1)) D k a l
  kl : k < t.Switches.length
theorem wq (wh : Wh t) {f d : Nat} (hf : f < t.Hosts.length) (hd : d < t.Hosts.length) : ∃ r, km t (f : Int) (d : Int) = some r ∧ (r.2 = false → r.1 = []) ∧ (r.2 = true → ∃ k D q a b, kC t f d r.1 k D q a b ∧ ∃ p, t.Hosts[f]? = some p ∧ pl t.Switches p.Sw = (a : Nat)) := by
  obtain ⟨p, q, a, b, gp, gq, ha, hb, la, lb, e⟩ := wg t wh hf hd
  rw [e]
  obtain ⟨x, hx, ⟨_, h1, _⟩ | ⟨k, D, l, rfl, h2, h3, h4, h1, _⟩⟩ := vT wh.wf la lb
  · exact ⟨_, h1, fun _ => rfl, fun h => by cases h⟩
  · have hk := hx.lt (fun a b h => gF h) la
    exact ⟨_, h1, fun h => (by cases h), fun _ => ⟨k, D, q, a, b, ⟨gq, hb, la, lb, h2, h3, ⟨l, rfl, h4⟩, by omega⟩, p, gp, ha⟩⟩
theorem kC.len {f d : Nat} {way : List Int} {k : Nat} {D : List Int} {q : api_Port} {a b : Nat} (h : kC t f d way k D q a b) : way.length = k + 1 := by
  obtain ⟨l, rfl, hl⟩ := h.wr
  simp [hl.len]
theorem wt (wh : Wh t) (w : bK) (hm : w.Match.length ≤ 1000) : ∃ c, gR t w = some c ∧ (c = 0 → ∃ f d way, dJ t w f d way) := by
  have wn := wh.ho
  unfold gR mw
  simp only [Option.bind_some]
  by_cases c1 : 0 ≤ w.From ∧ w.From < (t.Hosts.length : Int)
  rotate_left
  · refine ⟨1, ?_, fun h => by cases h⟩
    have : (decide (w.From ≥ 0) && decide (w.From < (t.Hosts.length : Int))) = false := by
      simp; omega
    rw [this]; rfl
  have e1 : (decide (w.From ≥ 0) && decide (w.From < (t.Hosts.length : Int))) = true := by
    simp; omega
  rw [e1]
  simp only [Bool.not_true, Bool.false_eq_true, if_false]
  by_cases c2 : 0 ≤ w.To ∧ w.To < (t.Hosts.length : Int)
  rotate_left
  · refine ⟨1, ?_, fun h => by cases h⟩
    have : (decide (w.To ≥ 0) && decide (w.To < (t.Hosts.length : Int))) = false := by
      simp; omega
    rw [this]; rfl
  have e2 : (decide (w.To ≥ 0) && decide (w.To < (t.Hosts.length : Int))) = true := by
    simp; omega
  rw [e2]
  simp only [Bool.not_true, Bool.false_eq_true, if_false, Option.bind_some]
  by_cases c3 : w.From = w.To
  · refine ⟨1, ?_, fun h => by cases h⟩
    rw [show (w.From == w.To) = true by simpa using c3]; rfl
  rw [show (w.From == w.To) = false by simpa using c3]
  simp only [Bool.false_eq_true, if_false]
  obtain ⟨f, hf⟩ := Int.eq_ofNat_of_zero_le c1.1
  obtain ⟨d, hd⟩ := Int.eq_ofNat_of_zero_le c2.1
  have hf : w.From = (f : Int) := hf
  have hd : w.To = (d : Int) := hd
  have lf : f < t.Hosts.length := by omega
  have ld : d < t.Hosts.length := by omega
  have hloop := n7 (qx w) w.Match (fun pre _ => ∀ p ∈ pre, 4 ≤ p.F ∧ p.F ≤ 7) (fun _ => False) (fun r => r = 1) () (fun p h => by cases h) (fun i x s hx hP => by
    have hi := (List.getElem?_eq_some_iff.1 hx).1
    simp only [qx, cd, hx, Option.bind_some]
    by_cases d1 : x.F < 4
    · rw [decide_eq_true d1, if_pos rfl]
      exact .inr (.inr ⟨1, rfl, rfl⟩)
    rw [decide_eq_false d1, if_neg (by decide)]
    by_cases d2 : x.F > 7
    · rw [decide_eq_true d2, if_pos rfl]
      exact .inr (.inr ⟨1, rfl, rfl⟩)
    rw [decide_eq_false d2, if_neg (by decide)]
    have hok : ∀ p ∈ w.Match.take i ++ [x], 4 ≤ p.F ∧ p.F ≤ 7 := fun p hp => by
      rcases List.mem_append.1 hp with hp | hp
      · exact hP p hp
      · rw [List.mem_singleton] at hp; subst hp; omega
    by_cases d3 : (i : Int) > 0
    · rw [decide_eq_true d3, if_pos rfl, jB (by omega) (by omega), show (i : Int) - 1 = ((i - 1 : Nat) : Int) by omega, cd, bU (by omega)]
      simp only [Option.bind_some]
      by_cases d4 : (w.Match[i - 1]'(by omega)).F ≥ x.F
      · rw [decide_eq_true d4, if_pos rfl]
        exact .inr (.inr ⟨1, rfl, rfl⟩)
      · rw [decide_eq_false d4, if_neg (by decide)]
        exact .inl ⟨(), rfl, hok⟩
    · rw [decide_eq_false d3, if_neg (by decide)]
      exact .inl ⟨(), rfl, hok⟩)
  rcases hloop with ⟨s', e, h | h⟩ | ⟨r, e, rfl⟩
  · rw [e]
    obtain ⟨r, er, _, ht⟩ := wq t wh lf ld
    simp only [Option.bind_some, hf, hd, er]
    cases hb : r.2 with
    | false => exact ⟨33, rfl, fun h => by cases h⟩
    | true =>
      refine ⟨0, rfl, fun _ => ⟨f, d, r.1, hf, hd, lf, ld, fun e => c3 (by rw [hf, hd, e]), h, ?_⟩⟩
      rw [er, ← hb]
  · exact h.elim
  · rw [e]; exact ⟨1, rfl, fun h => by cases h⟩
theorem dJ.way {w : bK} {f d : Nat} {way : List Int} (wh : Wh t) (h : dJ t w f d way) : ∃ k D q a b, kC t f d way k D q a b ∧ ∃ p, t.Hosts[f]? = some p ∧ pl t.Switches p.Sw = (a : Nat) := by
  obtain ⟨r, er, _, ht⟩ := wq t wh h.lf h.ld
  rw [h.wy] at er
  cases er
  exact ht rfl
theorem Bo (wh : Wh t) {w : bK} {f d : Nat} {way : List Int} (h : dJ t w f d way) (hm : w.Match.length ≤ 8) : ∃ hs : List f7, oh t w = some (hs.map dE) ∧ hs.length = way.length ∧ ∀ (j : Nat) x, hs[j]? = some x → gV t f d w.Match way j x := by
  obtain ⟨k, D, q, a, b, wi, _⟩ := h.way t wh
  have hlen := wi.len
  have wn := wh.wf.sw
  have wo := wh.ho
  have kl := wi.kl
  unfold oh
  rw [h.hf, h.hd, h.wy]
  simp only [Option.bind_some]
  obtain ⟨z, e, hs, rfl, hl, hh⟩ := iH (qz t w (way, true)) (fun i s => ∃ hs : List f7, s = hs.map dE ∧ hs.length = i ∧ ∀ (j : Nat) x, hs[j]? = some x → gV t f d w.Match way j x) way.length [] ⟨[], rfl, rfl, fun j x hx => by simp at hx⟩ (fun i s hi ⟨hs, hs1, hs2, hs3⟩ => by
    subst hs1
    obtain ⟨l, rfl, hW⟩ := wi.wr
    obtain ⟨u, g1, g2, g3, g4⟩ := hW.get wi.da i (by omega)
    have hu : u < t.Switches.length := by have := (List.getElem?_eq_some_iff.1 g3).1; rw [wi.ds.1] at this; exact this
    have hsu : t.Switches[u]? = some t.Switches[u] := bU hu
    generalize t.Switches[u] = sw at hsu
    have hpt : ∃ pt, kB t d ((a : Int) :: l) i = some pt ∧ (if decide (((i : Int) + 1) < (((a : Int) :: l).length : Int)) then (be ((a : Int) :: l) ((i : Int) + 1)).bind fun x12 => (k9 t u x12).bind fun r13 => some r13.1 else some q.Pt) = some pt := by
      unfold kB
      by_cases c : i + 1 < ((a : Int) :: l).length
      · rw [if_pos c, if_pos (by simp only [decide_eq_true_eq]; omega)]
        obtain ⟨v, v1, v2⟩ := g4 (by omega)
        have hv := (gF v2).2
        obtain ⟨pp, p1, _⟩ := vW wh.wf hsu (bU hv)
        refine ⟨pp.1, ?_, ?_⟩
        · rw [cd, g1, show (i : Int) + 1 = ((i + 1 : Nat) : Int) by omega, cd, v1]
          simp only [Option.bind_some, p1, Option.map_some]
        · rw [show (i : Int) + 1 = ((i + 1 : Nat) : Int) by omega, cd, v1]
          simp only [Option.bind_some, p1]
      · rw [if_neg c, if_neg (by simp only [decide_eq_true_eq]; omega)]
        exact ⟨q.Pt, by rw [cd, wi.hq]; rfl, rfl⟩
    obtain ⟨pt, pt1, pt2⟩ := hpt
    refine ⟨(hs ++ [f7.mk sw ((f : Int) + 1) ((d : Int) + 1) w.Match pt]).map dE, ?_, hs ++ [f7.mk sw ((f : Int) + 1) ((d : Int) + 1) w.Match pt], rfl, by simp [hs2], fun j x hx => ?_⟩
    · have e1 := wc (w := w) h.hf h.hd (by have := h.lf; omega) (by have := h.ld; omega) (by omega) [al.mk 2 0 sw []] (by simp)
      simp only [qz, cd, g1, Option.bind_some, h.hd, wi.hq, pt2, hsu, jr, e1]
      rw [dW (by simp [cG]; omega)]
      simp only [Option.bind_some]
      rw [dW (by simp [hs2]; omega)]
      simp [dE, fc]
    · by_cases c : j < hs.length
      · rw [List.getElem?_append_left c] at hx
        exact hs3 j x hx
      · have hj := (List.getElem?_eq_some_iff.1 hx).1
        simp at hj
        obtain rfl : j = hs.length := by omega
        simp at hx
        subst hx
        rw [hs2]
        exact ⟨⟨u, g1, hsu⟩, rfl, rfl, rfl, pt1⟩)
  rw [e]
  exact ⟨hs, rfl, hl, hh⟩
end
end Go.AM
end
section
set_option linter.unusedVariables false
set_option linter.unusedSimpArgs false
namespace Go.AM
open Go
section
variable (t : api_Topo)
structure jG (pre : List bK) (hs : List f7) (bs : List Bn) : Prop where
  nh : hs.length ≤ 13 * pre.length
  nb : bs.length ≤ pre.length
  may : ∀ w ∈ pre, ∃ f d way, dJ t w f d way
  ho : ∀ h ∈ hs, ∃ w ∈ pre, w.Ban = false ∧ ∃ f d way j, dJ t w f d way ∧ gV t f d w.Match way j h
  hi : ∀ w ∈ pre, w.Ban = false → ∀ f d way, dJ t w f d way → ∀ j, j < way.length → ∃ h ∈ hs, gV t f d w.Match way j h
  bo : ∀ b ∈ bs, ∃ w ∈ pre, w.Ban = true ∧ b = ⟨w.From + 1, w.To + 1, w.Match⟩
  bi : ∀ w ∈ pre, w.Ban = true → ⟨w.From + 1, w.To + 1, w.Match⟩ ∈ bs
def ja (l : List bK) (p : al) : Prop := ∃ hs bs, jG t l hs bs ∧ p = gD (hs.map dE) (bs.map dF) ∧ cE p ≤ 300 ∧ dD p ≤ 20
theorem dJ.uniq {w : bK} {f d f' d' : Nat} {way way' : List Int} (h : dJ t w f d way) (g : dJ t w f' d' way') : f = f' ∧ d = d' ∧ way = way' := by
  have e1 : f = f' := by have := h.hf; have := g.hf; omega
  have e2 : d = d' := by have := h.hd; have := g.hd; omega
  subst e1; subst e2
  have := h.wy
  rw [g.wy] at this
  cases this
  exact ⟨rfl, rfl, rfl⟩
theorem jG.hop {pre : List bK} {hs ks : List f7} {bs : List Bn} (h : jG t pre hs bs) {w : bK} (hb : w.Ban = false) {f d : Nat} {way : List Int} (hw : dJ t w f d way) (hl : ks.length = way.length) (h13 : way.length ≤ 13) (hk : ∀ (j : Nat) x, ks[j]? = some x → gV t f d w.Match way j x) : jG t (pre ++ [w]) (hs ++ ks) bs := by
  refine ⟨by have := h.nh; simp; omega, by have := h.nb; simp; omega, fun v hv => ?_, fun x hx => ?_, fun v hv hvb f' d' way' hm j hj => ?_, fun b hb => ?_, fun v hv hvb => ?_⟩
  · rcases List.mem_append.1 hv with hv | hv
    · exact h.may v hv
    · rw [List.mem_singleton] at hv; subst hv; exact ⟨f, d, way, hw⟩
  · rcases List.mem_append.1 hx with hx | hx
    · obtain ⟨v, v1, v2⟩ := h.ho x hx
      exact ⟨v, by simp [v1], v2⟩
    · obtain ⟨j, hj⟩ := List.getElem?_of_mem hx
      exact ⟨w, by simp, hb, f, d, way, j, hw, hk j x hj⟩
  · rcases List.mem_append.1 hv with hv | hv
    · obtain ⟨x, x1, x2⟩ := h.hi v hv hvb f' d' way' hm j hj
      exact ⟨x, by simp [x1], x2⟩
    · rw [List.mem_singleton] at hv; subst hv
      obtain ⟨rfl, rfl, rfl⟩ := dJ.uniq t hm hw
      have hjk : j < ks.length := by omega
      exact ⟨ks[j], by simp, hk j _ (bU hjk)⟩
  · obtain ⟨v, v1, v2⟩ := h.bo b hb
    exact ⟨v, by simp [v1], v2⟩
  · rcases List.mem_append.1 hv with hv | hv
    · exact h.bi v hv hvb
    · rw [List.mem_singleton] at hv; subst hv; rw [hb] at hvb; cases hvb
theorem jG.ban {pre : List bK} {hs : List f7} {bs : List Bn} (h : jG t pre hs bs) {w : bK} (hb : w.Ban = true) (hw : ∃ f d way, dJ t w f d way) : jG t (pre ++ [w]) hs (bs ++ [⟨w.From + 1, w.To + 1, w.Match⟩]) := by
  refine ⟨by have := h.nh; simp; omega, by have := h.nb; simp; omega, fun v hv => ?_, fun x hx => ?_, fun v hv hvb f' d' way' hm j hj => ?_, fun b hb' => ?_, fun v hv hvb => ?_⟩
  · rcases List.mem_append.1 hv with hv | hv
    · exact h.may v hv
    · rw [List.mem_singleton] at hv; subst hv; exact hw
  · obtain ⟨v, v1, v2⟩ := h.ho x hx
    exact ⟨v, by simp [v1], v2⟩
  · rcases List.mem_append.1 hv with hv | hv
    · exact h.hi v hv hvb f' d' way' hm j hj
    · rw [List.mem_singleton] at hv; subst hv; rw [hb] at hvb; cases hvb
  · rcases List.mem_append.1 hb' with hb' | hb'
    · obtain ⟨v, v1, v2⟩ := h.bo b hb'
      exact ⟨v, by simp [v1], v2⟩
    · rw [List.mem_singleton] at hb'; subst hb'; exact ⟨w, by simp, hb, rfl⟩
  · rcases List.mem_append.1 hv with hv | hv
    · simp [h.bi v hv hvb]
    · rw [List.mem_singleton] at hv; subst hv; simp
theorem Bp {l : List bK} {M : Nat} (hM : M ≤ 8) (hm : ∀ w ∈ l, w.Match.length ≤ M) (hB : l.length * (13 * (6 + M)) ≤ 90000) :
    ∃ r, mF t l = some r ∧ (r.2 = 0 → Wh t ∧ ja t l r.1) ∧ (Wh t → (∀ w ∈ l, gR t w = some 0) → r.2 = 0 ∨ r.2 = 2) := by
  obtain ⟨c, hc, hcw⟩ := wa t
  unfold mF
  rw [hc]
  simp only [Option.bind_some]
  by_cases c0 : (c != 0) = true
  · rw [if_pos c0]
    have c0' : ¬ c = 0 := by simpa using c0
    exact ⟨_, rfl, fun h => (c0' h).elim, fun wh _ => (c0' (hcw.2 wh)).elim⟩
  rw [if_neg c0]
  have wh : Wh t := hcw.1 (by simpa using c0)
  have wn := wh.wf.sw
  have wo := wh.ho
  have hloop := n7 (qE t l) l (fun pre s => ∃ hs bs, s = (hs.map dE, bs.map dF) ∧ jG t pre hs bs) (fun _ => False) (fun r => r.2 ≠ 0 ∧ ∃ w ∈ l, gR t w ≠ some 0) ([], []) ⟨[], [], rfl, ⟨Nat.le_refl _, Nat.le_refl _, fun w h => (by cases h), fun w h => (by cases h), fun w h => (by cases h), fun w h => (by cases h), fun w h => (by cases h)⟩⟩ (fun i w s hx ⟨hs, bs, e, hI⟩ => by
    subst e
    have hi := (List.getElem?_eq_some_iff.1 hx).1
    have hwl : w ∈ l := c7 hx
    have hwm := hm w hwl
    have hpl : (l.take i).length = i := by simp; omega
    have nh := hI.nh
    have nb := hI.nb
    rw [hpl] at nh nb
    have hlm : l.length ≤ 2000 := by
      have : l.length * 78 ≤ l.length * (13 * (6 + M)) := Nat.mul_le_mul_left _ (by omega)
      omega
    obtain ⟨c, hc, hcm⟩ := wt t wh w (by omega)
    simp only [qE, cd, hx, Option.bind_some, hc]
    by_cases cz : (c != 0) = true
    · rw [if_pos cz]
      have cz' : ¬ c = 0 := by simpa using cz
      exact .inr (.inr ⟨_, rfl, cz', w, hwl, by rw [hc]; simpa using cz'⟩)
    rw [if_neg cz]
    obtain ⟨f, d, way, hmay⟩ := hcm (by simpa using cz)
    cases hb : w.Ban with
    | true =>
      simp only [if_true]
      rw [wc (w := w) hmay.hf hmay.hd (by have := hmay.lf; omega) (by have := hmay.ld; omega) (by omega) [] (by simp)]
      simp only [Option.bind_some, List.nil_append]
      rw [dW (by simp; omega)]
      refine .inl ⟨_, rfl, hs, bs ++ [⟨w.From + 1, w.To + 1, w.Match⟩], ?_, hI.ban t hb ⟨f, d, way, hmay⟩⟩
      rw [hmay.hf, hmay.hd]
      simp [dF]
    | false =>
      simp only [Bool.false_eq_true, if_false]
      obtain ⟨k, D, q, a, b, wi, _⟩ := hmay.way t wh
      have hlen := wi.len
      have kl := wi.kl
      obtain ⟨ks, k1, k2, k3⟩ := Bo t wh hmay (by omega)
      rw [k1]
      simp only [Option.bind_some]
      rw [dW (by simp; omega)]
      refine .inl ⟨_, rfl, hs ++ ks, bs, ?_, hI.hop t hb hmay k2 (by omega) k3⟩
      simp)
  rcases hloop with ⟨s, e, ⟨hs, bs, rfl, hI⟩ | h⟩ | ⟨r, e, h1, w, hw1, hw2⟩
  · rw [e]
    simp only [Option.bind_some, Bi]
    have hp : (if decide ((((bs.map dF).length : Nat) : Int) > 0) then some (al.mk 6 0 0 ([(al.mk 4 0 0 ([eK (bs.map dF)] : List al)), eK (hs.map dE)] : List al)) else some (eK (hs.map dE))) = some (gD (hs.map dE) (bs.map dF)) := by
      unfold gD
      by_cases c : (bs.map dF).length = 0
      · rw [if_neg (by simp only [decide_eq_true_eq]; omega), if_pos c]
      · rw [if_pos (by simp only [decide_eq_true_eq]; omega), if_neg c]
    rw [hp]
    simp only [Option.bind_some]
    have hmh : ∀ h ∈ hs, h.m.length ≤ M := fun h hh => by
      obtain ⟨w, w1, _, f, d, way, j, _, hj⟩ := hI.ho h hh
      rw [hj.m]; exact hm w w1
    have hmb : ∀ b ∈ bs, b.m.length ≤ M := fun b hb => by
      obtain ⟨w, w1, _, rfl⟩ := hI.bo b hb
      exact hm w w1
    have sz : cE (gD (hs.map dE) (bs.map dF)) ≤ df := by
      have h1 := Bm (hs.map dE) (bs.map dF)
      have h2 := o8 (6 + M) (hs.map dE) (fun x hx => by
        obtain ⟨h, hh, rfl⟩ := List.mem_map.1 hx
        have := Bk h; have := hmh h hh; omega)
      have h3 := o8 (6 + M) (bs.map dF) (fun x hx => by
        obtain ⟨b, hb, rfl⟩ := List.mem_map.1 hx
        have := Bl b; have := hmb b hb; omega)
      rw [List.length_map] at h2 h3
      have h4 : hs.length * (6 + M) ≤ 13 * l.length * (6 + M) := Nat.mul_le_mul_right _ hI.nh
      have h5 : bs.length * (6 + M) ≤ l.length * (6 + M) := Nat.mul_le_mul_right _ hI.nb
      have h6 : l.length * (13 * (6 + M)) = 13 * l.length * (6 + M) := by rw [← Nat.mul_assoc, Nat.mul_comm l.length 13]
      have h7 : 13 * (l.length * (6 + M)) ≤ 90000 := by rw [← Nat.mul_assoc]; omega
      have : l.length * (6 + M) ≤ 6923 := by omega
      unfold df; omega
    rw [Ab sz]
    simp only [Option.bind_some]
    by_cases c1 : (cE (gD (hs.map dE) (bs.map dF)) : Int) > 300
    · rw [decide_eq_true c1, if_pos rfl]
      exact ⟨_, rfl, fun h => (by cases h), fun _ _ => .inr rfl⟩
    · rw [decide_eq_false c1, if_neg (by decide), Ac sz]
      simp only [Option.bind_some]
      by_cases c2 : (dD (gD (hs.map dE) (bs.map dF)) : Int) > 20
      · rw [decide_eq_true c2]
        exact ⟨_, rfl, fun h => (by cases h), fun _ _ => .inr rfl⟩
      · rw [decide_eq_false c2]
        exact ⟨_, rfl, fun _ => ⟨wh, hs, bs, hI, rfl, by simp only; omega, by simp only; omega⟩, fun _ _ => .inl rfl⟩
  · exact h.elim
  · rw [e]
    exact ⟨r, rfl, fun h => (h1 h).elim, fun _ ha => (hw2 (ha w hw1)).elim⟩
def gr (l : List bK) (q : Pk) : Bool := l.any fun w => w.Ban && dX q (cG (w.From + 1) (w.To + 1) w.Match)
theorem Bq {f d : Nat} {way : List Int} {k : Nat} {D : List Int} {q : api_Port} {a b : Nat} (h : kC t f d way k D q a b) {i j u : Nat} (hi : way[i]? = some (u : Int)) (hj : way[j]? = some (u : Int)) : i = j := by
  have hl := h.len
  obtain ⟨l, rfl, hW⟩ := h.wr
  have li := (List.getElem?_eq_some_iff.1 hi).1
  have lj := (List.getElem?_eq_some_iff.1 hj).1
  obtain ⟨v, g1, _, g2, _⟩ := hW.get h.da i (by omega)
  obtain ⟨v', g3, _, g4, _⟩ := hW.get h.da j (by omega)
  rw [hi] at g1; rw [hj] at g3
  have e1 : v = u := by have := bM g1; omega
  have e2 : v' = u := by have := bM g3; omega
  subst e1; subst e2
  rw [g2] at g4
  have := bM g4
  omega
theorem jb {q : Pk} {l : List (Int × Int)} (h : dX q l = true) {p : Int × Int} (hp : p ∈ l) : q.get p.1 = some p.2 := by
  have := List.all_eq_true.1 h p hp
  simpa using this
theorem wv (wh : Wh t) {q : Pk} {f d f' d' : Nat} {w w' : bK} {way way' : List Int} {j j' : Nat} {h h' : f7} (m : dJ t w f d way) (m' : dJ t w' f' d' way') (x : gV t f d w.Match way j h) (x' : gV t f' d' w'.Match way' j' h') (b : eu q h = true) (b' : eu q h' = true) : h.pt = h'.pt := by
  have g0 := jb b (p := (0, h.sw)) (by simp)
  have g0' := jb b' (p := (0, h'.sw)) (by simp)
  have g2 := jb b (p := (2, h.src)) (by simp [cG])
  have g2' := jb b' (p := (2, h'.src)) (by simp [cG])
  have g3 := jb b (p := (3, h.dst)) (by simp [cG])
  have g3' := jb b' (p := (3, h'.dst)) (by simp [cG])
  simp only at g0 g0' g2 g2' g3 g3'
  rw [g0] at g0'; rw [g2] at g2'; rw [g3] at g3'
  have e0 := bM g0'
  have e2 := bM g2'
  have e3 := bM g3'
  rw [x.src, x'.src] at e2
  rw [x.dst, x'.dst] at e3
  have ef : f = f' := by omega
  have ed : d = d' := by omega
  subst ef; subst ed
  have hw := m.wy
  rw [m'.wy] at hw
  cases hw
  obtain ⟨k, D, qq, a, bb, wi, _⟩ := m.way t wh
  obtain ⟨u, u1, u2⟩ := x.at_
  obtain ⟨v, v1, v2⟩ := x'.at_
  have i1 := wh.wf.id u _ u2
  have i2 := wh.wf.id v _ v2
  rw [e0] at i1
  have : u = v := by omega
  subst this
  have : j = j' := Bq t wi u1 v1
  subst this
  have hp := x.pt
  rw [x'.pt] at hp
  exact (bM hp).symm
theorem ww {w : bK} {f d : Nat} {way : List Int} (m : dJ t w f d way) (s e : Int) : mU (cG s e w.Match) := by
  intro p hp
  simp only [cG, List.mem_cons, List.mem_map] at hp
  rcases hp with rfl | rfl | ⟨x, hx, rfl⟩
  · exact ⟨by simp only; omega, by simp only; omega⟩
  · exact ⟨by simp only; omega, by simp only; omega⟩
  · have := m.ok x hx
    exact ⟨by simp only; omega, by simp only; omega⟩
theorem Bs {l : List bK} {p : al} (h : ja t l p) : kq p = true := by
  obtain ⟨hs, bs, hI, rfl, h1, h2⟩ := h
  unfold kq
  rw [Bool.and_eq_true]
  refine ⟨decide_eq_true ⟨h1, h2⟩, AI (fun k hk => ?_) (fun k hk => ?_)⟩
  · obtain ⟨x, hx, rfl⟩ := List.mem_map.1 hk
    obtain ⟨w, w1, _, f, d, way, j, m, hj⟩ := hI.ho x hx
    refine AG ?_
    rw [hj.m]; exact ww t m _ _
  · obtain ⟨b, hb, rfl⟩ := List.mem_map.1 hk
    obtain ⟨w, w1, _, rfl⟩ := hI.bo b hb
    obtain ⟨f, d, way, m⟩ := hI.may w w1
    exact AF (ww t m _ _)
def o9 (l : List bK) (q : Pk) : Prop := ∀ w ∈ l, w.Ban = false → ∀ f d way j h, dJ t w f d way → gV t f d w.Match way j h → eu q h = false
theorem pa {l : List bK} {p : al} (wh : Wh t) (ho : ja t l p) (q : Pk) :
    (gr l q = true ∨ o9 t l q → kn p [] q = some ([], 0)) ∧
    (gr l q = false → ∀ w ∈ l, w.Ban = false → ∀ f d way j h, dJ t w f d way → gV t f d w.Match way j h → eu q h = true → kn p [] q = some ([fN q 1 h.pt], 0)) := by
  have hr := Bs t ho
  obtain ⟨hs, bs, hI, rfl, h1, h2⟩ := ho
  have hbig : cE (gD (hs.map dE) (bs.map dF)) ≤ df := by unfold df; omega
  rw [AE [] hbig q]
  unfold rC
  rw [if_pos hr]
  let fw : al → Bool := fun k => match ex [] k q with | some (_ :: _) => true | _ => false
  have fwe : ∀ (b : Bool) (x : Pk) k, ex [] k q = some (ol b x) → fw k = b := by
    intro b x k hk
    simp only [fw, hk]
    cases b <;> rfl
  have hban : (bs.map dF).any fw = gr l q := by
    rw [Bool.eq_iff_iff, List.any_eq_true]
    unfold gr
    rw [List.any_eq_true]
    constructor
    · rintro ⟨k, hk, hf⟩
      obtain ⟨b, hb, rfl⟩ := List.mem_map.1 hk
      obtain ⟨w, w1, w2, rfl⟩ := hI.bo b hb
      rw [fwe _ _ _ (rE [] _ q)] at hf
      exact ⟨w, w1, by rw [w2, hf]; rfl⟩
    · rintro ⟨w, w1, w2⟩
      rw [Bool.and_eq_true] at w2
      exact ⟨_, List.mem_map.2 ⟨_, hI.bi w w1 w2.1, rfl⟩, by rw [fwe _ _ _ (rE [] _ q)]; exact w2.2⟩
  have hb : ∀ k ∈ bs.map dF, ex [] k q = some (ol (fw k) q) := fun k hk => by
    obtain ⟨b, _, rfl⟩ := List.mem_map.1 hk
    have := rE [] b q
    rw [this, fwe _ _ _ this]
  by_cases hany : ∃ h ∈ hs, eu q h = true
  · obtain ⟨h0, m0, b0⟩ := hany
    obtain ⟨w0, w01, w02, f0, d0, way0, j0, may0, hop0⟩ := hI.ho h0 m0
    have hw : ∀ k ∈ hs.map dE, ex [] k q = some (ol (fw k) (fN q 1 h0.pt)) := fun k hk => by
      obtain ⟨h, hh, rfl⟩ := List.mem_map.1 hk
      have := oU [] h q
      rw [fwe _ _ _ this, this]
      cases hbq : eu q h with
      | false => rfl
      | true =>
        obtain ⟨w, w1, w2, f, d, way, j, may, hop⟩ := hI.ho h hh
        rw [wv t wh may may0 hop hop0 hbq b0]
    have hwa : (hs.map dE).any fw = true := List.any_eq_true.2 ⟨_, List.mem_map.2 ⟨h0, m0, rfl⟩, by rw [fwe _ _ _ (oU [] h0 q)]; exact b0⟩
    have he := vC [] fw fw hw hb
    rw [hban, hwa, Bool.and_true] at he
    rw [he]
    refine ⟨fun hc => ?_, fun hc w w1 w2 f d way j h may hop hbq => ?_⟩
    · have : gr l q = true := by
        rcases hc with hc | hc
        · exact hc
        · exact absurd (hc w0 w01 w02 f0 d0 way0 j0 h0 may0 hop0) (by rw [b0]; decide)
      rw [this]; rfl
    · rw [hc]
      rw [wv t wh may may0 hop hop0 hbq b0]; rfl
  · have hw : ∀ k ∈ hs.map dE, ex [] k q = some (ol (fw k) q) := fun k hk => by
      obtain ⟨h, hh, rfl⟩ := List.mem_map.1 hk
      have := oU [] h q
      rw [fwe _ _ _ this, this]
      have : eu q h = false := by
        cases hbq : eu q h with
        | false => rfl
        | true => exact (hany ⟨h, hh, hbq⟩).elim
      rw [this]; rfl
    have hwa : (hs.map dE).any fw = false := by
      rw [Bool.eq_false_iff]
      intro hc
      obtain ⟨k, hk, hf⟩ := List.any_eq_true.1 hc
      obtain ⟨h, hh, rfl⟩ := List.mem_map.1 hk
      rw [fwe _ _ _ (oU [] h q)] at hf
      exact hany ⟨h, hh, hf⟩
    have he := vC [] fw fw hw hb
    rw [hban, hwa, Bool.and_false] at he
    rw [he]
    refine ⟨fun _ => rfl, fun hc w w1 w2 f d way j h may hop hbq => ?_⟩
    have hl : j < way.length := by obtain ⟨u, u1, _⟩ := hop.at_; exact (List.getElem?_eq_some_iff.1 u1).1
    obtain ⟨h', hh', hop'⟩ := hI.hi w w1 w2 f d way may j hl
    have : h' = h := by
      obtain ⟨u, u1, u2⟩ := hop.at_
      obtain ⟨v, v1, v2⟩ := hop'.at_
      rw [u1] at v1
      have : u = v := by have := bM v1; omega
      subst this
      rw [u2] at v2
      have hp := hop.pt
      rw [hop'.pt] at hp
      cases h; cases h'
      simp only [f7.mk.injEq]
      exact ⟨(bM v2).symm, hop'.src.trans hop.src.symm, hop'.dst.trans hop.dst.symm, hop'.m.trans hop.m.symm, bM hp⟩
    subst this
    exact (hany ⟨h', hh', hbq⟩).elim
end
end Go.AM
end
