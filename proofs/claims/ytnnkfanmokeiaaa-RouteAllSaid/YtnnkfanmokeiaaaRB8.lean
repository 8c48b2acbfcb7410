import Derived.Test.YtnnkfanmokeiaaaRB4
import Derived.Test.YtnnkfanmokeiaaaRtT
/-  Several texts in one. -/
section
set_option linter.unusedVariables false
set_option linter.unusedSimpArgs false
namespace Go.AM
open Go
section
variable (t : api_Topo)
theorem Bt {p : api_Port} (h : p ∉ cN t.Links) : ju t p = some (⟨0, 0⟩, false) := by
  unfold ju
  rw [k8 _ (gH p) t.Links (fun j x hj => by
    simp only [qS, cd, hj, Option.bind_some, gH]
    by_cases c : (x.a0 == p) = true
    · simp only [c, if_true]; rfl
    · simp only [c, if_false]
      by_cases c2 : (x.a1 == p) = true
      · simp only [c2, if_true]; rfl
      · simp only [c2, if_false]; rfl)]
  have : ∀ l : List (A2 api_Port), p ∉ cN l → e9 (gH p) l = none := by
    intro l
    induction l with
    | nil => intro _; rfl
    | cons x l ih =>
      intro hp
      simp only [cN, List.flatMap_cons, List.mem_append, List.mem_cons, List.not_mem_nil, or_false, not_or] at hp
      have e0 : (x.a0 == p) = false := by simp only [beq_eq_false_iff_ne]; exact fun e => hp.1.1 e.symm
      have e1 : (x.a1 == p) = false := by simp only [beq_eq_false_iff_ne]; exact fun e => hp.1.2 e.symm
      simp only [e9, gH, e0, e1]
      exact ih hp.2
  rw [this t.Links h]; rfl
theorem Bu {p : api_Port} (h : p ∈ t.Hosts) : oE t p = some true := by
  unfold oE
  rw [k8 _ (fun x => if x == p then some true else none) t.Hosts (fun j x hj => by
    simp only [uD, cd, hj, Option.bind_some]
    by_cases c : (x == p) = true
    · simp only [c, if_true]; rfl
    · simp only [c, if_false]; rfl)]
  rw [oZ, List.any_eq_true.2 ⟨p, h, by simp⟩]; rfl
theorem Bv (wh : Wh t) {d : Nat} {q : api_Port} (hq : t.Hosts[d]? = some q) (x : Pk) (h0 : x.a0 = q.Sw) (h1 : x.a1 = q.Pt) : lm t x = some (x, 1) := by
  have hm : q ∈ t.Hosts := c7 hq
  have e : api_Port.mk x.a0 x.a1 = q := by rw [h0, h1]
  unfold lm
  rw [e, Bt t (fun hp => (List.nodup_append.1 wh.hn).2.2 q hp q hm rfl)]
  simp only [Option.bind_some, Bool.false_eq_true, if_false, Bu t hm, if_true]
def fe (q : Pk) (sw pt : Int) : Pk := ⟨sw, pt, q.a2, q.a3, q.a4, q.a5, q.a6, q.a7⟩
theorem wx (q : Pk) (n : Int) : fN q 1 n = fe q q.a0 n := by cases q; rfl
theorem wz {q : Pk} (sw pt : Int) {l : List (Int × Int)} (h : ∀ p ∈ l, 2 ≤ p.1 ∧ p.1 < 8) : dX (fe q sw pt) l = dX q l := by
  unfold dX
  rw [Bool.eq_iff_iff, List.all_eq_true, List.all_eq_true]
  have key : ∀ p ∈ l, (fe q sw pt).get p.1 = q.get p.1 := fun p hp => by
    have := h p hp
    obtain ⟨f, n⟩ := p
    simp only at this ⊢
    rcases u6 (f := f) (by omega) this.2 with e | e | e | e | e | e | e | e
    · omega
    · omega
    all_goals subst e; cases q; rfl
  exact ⟨fun g p hp => by rw [← key p hp]; exact g p hp, fun g p hp => by rw [key p hp]; exact g p hp⟩
theorem wA {w : bK} {f d : Nat} {way : List Int} (m : dJ t w f d way) (s e : Int) : ∀ p ∈ cG s e w.Match, 2 ≤ p.1 ∧ p.1 < 8 := by
  intro p hp
  simp only [cG, List.mem_cons, List.mem_map] at hp
  rcases hp with rfl | rfl | ⟨x, hx, rfl⟩
  · exact ⟨by simp, by simp⟩
  · exact ⟨by simp, by simp⟩
  · have := m.ok x hx
    exact ⟨by simp only; omega, by simp only; omega⟩
theorem Bw {l : List bK} (hl : ∀ w ∈ l, ∃ f d way, dJ t w f d way) (q : Pk) (sw pt : Int) : gr l (fe q sw pt) = gr l q := by
  unfold gr
  rw [Bool.eq_iff_iff, List.any_eq_true, List.any_eq_true]
  have key : ∀ w ∈ l, dX (fe q sw pt) (cG (w.From + 1) (w.To + 1) w.Match) = dX q (cG (w.From + 1) (w.To + 1) w.Match) := fun w hw => by
    obtain ⟨f, d, way, m⟩ := hl w hw
    exact wz sw pt (wA t m _ _)
  exact ⟨fun ⟨w, h1, h2⟩ => ⟨w, h1, by rw [← key w h1]; exact h2⟩, fun ⟨w, h1, h2⟩ => ⟨w, h1, by rw [key w h1]; exact h2⟩⟩
theorem ja.may {l : List bK} {p : al} (h : ja t l p) : ∀ w ∈ l, ∃ f d way, dJ t w f d way := by
  obtain ⟨hs, bs, hI, _⟩ := h
  exact hI.may
structure wB (q : api_Port) (x : Pk) (n : Nat) (W : List Pk) : Prop where
  ev : W.length % 2 = 0
  pos : 2 ≤ W.length
  le : W.length ≤ 2 * n
  last : ∃ y, W.getLast? = some y ∧ y.a0 = q.Sw ∧ y.a1 = q.Pt
theorem Bx (wh : Wh t) {l : List bK} {p : al} (ho : ja t l p) {w : bK} (hw : w ∈ l) (hb : w.Ban = false) {f d : Nat} {way : List Int} (m : dJ t w f d way)
    {k : Nat} {D : List Int} {qd : api_Port} {a b : Nat} (wi : kC t f d way k D qd a b) :
    ∀ (r j : Nat), j + r = k → ∀ (F H : Nat) (x : Pk) (u : Nat), r < F → r < H → H ≤ 12 → way[j]? = some (u : Int) → t.Switches[u]? = some x.a0 → gr l x = false → dX x (cG ((f : Int) + 1) ((d : Int) + 1) w.Match) = true →
      ∃ W, jw F t p [] x (H : Int) = some ([W], 0) ∧ wB qd x (r + 1) W := by
  intro r
  induction r with
  | zero =>
    intro j hj F H x u hF hH hH2 hu hsw hbn hft
    obtain ⟨F, rfl⟩ : ∃ F', F = F' + 1 := ⟨F - 1, by omega⟩
    obtain ⟨l', hway, hW⟩ := wi.wr
    have hlen := wi.len
    obtain ⟨v, g1, _, g3, _⟩ := hW.get wi.da j (by omega)
    rw [← hway, hu] at g1
    have huv : u = v := by have := bM g1; omega
    subst huv
    have hub : u = b := by
      have h1 := wi.ds.2 u _ g3
      rw [show k - j = 0 by omega] at h1
      exact h1.zero.symm
    have hx0 : x.a0 = qd.Sw := by
      rcases lF t.Switches qd.Sw with ⟨i, h1, h2⟩ | ⟨h1, _⟩
      · have := wi.hb
        have : i = u := by omega
        subst this
        rw [hsw] at h2; exact bM h2
      · have := wi.hb; omega
    have hpt : kB t d way j = some qd.Pt := by
      unfold kB
      rw [if_neg (by omega), cd, wi.hq]; rfl
    have hop : gV t f d w.Match way j ⟨x.a0, (f : Int) + 1, (d : Int) + 1, w.Match, qd.Pt⟩ := ⟨⟨u, hu, hsw⟩, rfl, rfl, rfl, hpt⟩
    have hbq : eu x ⟨x.a0, (f : Int) + 1, (d : Int) + 1, w.Match, qd.Pt⟩ = true := by
      unfold eu dX
      rw [List.all_cons]
      have : x.get 0 = some x.a0 := by cases x; rfl
      simp only [this, beq_self_eq_true, Bool.true_and]
      exact hft
    have hmk := (pa t wh ho x).2 hbn w hw hb f d way j _ m hop hbq
    rw [wx] at hmk
    have hnx := Bv t wh wi.hq (fe x x.a0 qd.Pt) hx0 rfl
    refine ⟨[x, fe x x.a0 qd.Pt], ?_, ⟨by simp, by simp, by simp, _, rfl, hx0, rfl⟩⟩
    show jv (jw F) t p [] x (H : Int) = _
    unfold jv
    rw [hmk]
    simp only [Option.bind_some]
    rw [if_neg (by decide), if_neg (by simp)]
    rw [show bA 0 (([fe x x.a0 qd.Pt].length : Nat) : Int) = [0] from rfl]
    simp only [b6, qT]
    rw [show be [fe x x.a0 qd.Pt] 0 = some (fe x x.a0 qd.Pt) from rfl]
    simp only [Option.bind_some, hnx]
    rw [show ((1 : Int) != 0) = true from rfl]
    simp only [Bool.true_or, if_true]
    rw [dW (by simp)]
    simp only [Option.bind_some, List.nil_append]
    rw [if_neg (by simp)]
    rfl
  | succ r ih =>
    intro j hj F H x u hF hH hH2 hu hsw hbn hft
    obtain ⟨F, rfl⟩ : ∃ F', F = F' + 1 := ⟨F - 1, by omega⟩
    obtain ⟨l', hway, hW⟩ := wi.wr
    have hlen := wi.len
    obtain ⟨v, g1, _, g3, g4⟩ := hW.get wi.da j (by omega)
    rw [← hway, hu] at g1
    have huv : u = v := by have := bM g1; omega
    subst huv
    obtain ⟨v, v1, v2⟩ := g4 (by omega)
    rw [← hway] at v1
    have hv := (gF v2).2
    have hsv : t.Switches[v]? = some t.Switches[v] := bU hv
    generalize t.Switches[v] = vb at hsv
    obtain ⟨pp, p1, p2⟩ := vW wh.wf hsw hsv
    have p3 : ∃ o : api_Port, ju t (api_Port.mk x.a0 pp.1) = some (o, true) ∧ o.Sw = vb := by
      rcases p2 with ⟨h, _⟩ | ⟨_, _, h⟩
      · exact (h v2).elim
      · exact h
    obtain ⟨o, o1, o2⟩ := p3
    have hpt : kB t d way j = some pp.1 := by
      unfold kB
      rw [if_pos (by omega), cd, hu, show (j : Int) + 1 = ((j + 1 : Nat) : Int) by omega, cd, v1]
      simp only [Option.bind_some, p1, Option.map_some]
    have hop : gV t f d w.Match way j ⟨x.a0, (f : Int) + 1, (d : Int) + 1, w.Match, pp.1⟩ := ⟨⟨u, hu, hsw⟩, rfl, rfl, rfl, hpt⟩
    have hbq : eu x ⟨x.a0, (f : Int) + 1, (d : Int) + 1, w.Match, pp.1⟩ = true := by
      unfold eu dX
      rw [List.all_cons]
      have : x.get 0 = some x.a0 := by cases x; rfl
      simp only [this, beq_self_eq_true, Bool.true_and]
      exact hft
    have hmk := (pa t wh ho x).2 hbn w hw hb f d way j _ m hop hbq
    rw [wx] at hmk
    have hnx : lm t (fe x x.a0 pp.1) = some (fe x o.Sw o.Pt, 0) := by
      unfold lm
      rw [show api_Port.mk (fe x x.a0 pp.1).a0 (fe x x.a0 pp.1).a1 = api_Port.mk x.a0 pp.1 from rfl, o1]; rfl
    obtain ⟨W, e, hC⟩ := ih (j + 1) (by omega) F (H - 1) (fe x o.Sw o.Pt) v (by omega) (by omega) (by omega) v1 (by rw [hsv]; exact congrArg some o2.symm) (by rw [Bw t (ja.may t ho)]; exact hbn) (by rw [wz _ _ (wA t m _ _)]; exact hft)
    have hw1 : IntKind.i64.wrap ((H : Int) - 1) = ((H - 1 : Nat) : Int) := by rw [jB (by omega) (by omega)]; omega
    refine ⟨[x, fe x x.a0 pp.1] ++ W, ?_, ⟨by have := hC.ev; simp; omega, by simp, by have := hC.le; simp; omega, ?_⟩⟩
    · show jv (jw F) t p [] x (H : Int) = _
      unfold jv
      rw [hmk]
      simp only [Option.bind_some]
      rw [if_neg (by decide), if_neg (by simp)]
      rw [show bA 0 (([fe x x.a0 pp.1].length : Nat) : Int) = [0] from rfl]
      simp only [b6, qT]
      rw [show be [fe x x.a0 pp.1] 0 = some (fe x x.a0 pp.1) from rfl]
      simp only [Option.bind_some, hnx]
      have c1 : (((0 : Int) != 0) || ((H : Int) == 1)) = false := by simp; omega
      rw [c1, hw1, e]
      simp only [Bool.false_eq_true, if_false, Option.bind_some, bne_self_eq_false]
      rw [show bA 0 (([W].length : Nat) : Int) = [0] from rfl]
      simp only [cQ, uE]
      rw [show be [W] 0 = some W from rfl]
      simp only [Option.bind_some]
      rw [dW (by have := hC.le; simp; omega)]
      simp only [Option.bind_some]
      rw [dW (by simp)]
      simp only [Option.bind_some, List.nil_append]
      rw [if_neg (by simp)]
      rfl
    · obtain ⟨y, y1, y2⟩ := hC.last
      refine ⟨y, ?_, y2⟩
      have : W ≠ [] := by intro e; subst e; simp at y1
      rw [List.getLast?_append]
      simp [y1]
theorem wC {p : al} {x : Pk} (h : kn p [] x = some ([], 0)) (F : Nat) (H : Int) : jw (F + 1) t p [] x H = some ([[x]], 0) := by
  show jv (jw F) t p [] x H = _
  unfold jv
  rw [h]; rfl
theorem By (wh : Wh t) {l : List bK} {p : al} (ho : ja t l p) (x : Pk) :
    ((gr l x = true ∨ o9 t l x) ∧ mI t p [] x 12 = some ([[x]], 0)) ∨
    (gr l x = false ∧ ∃ w ∈ l, w.Ban = false ∧ ∃ f d way k D qd a b, dJ t w f d way ∧ kC t f d way k D qd a b ∧ dX x (cG ((f : Int) + 1) ((d : Int) + 1) w.Match) = true ∧ ∃ W, mI t p [] x 12 = some ([W], 0) ∧ wB qd x 12 W) := by
  have hFU : ∃ F, c9 = F + 1 ∧ 13 ≤ F := by
    obtain ⟨m, hm⟩ := mr 20 (by omega)
    exact ⟨m + 19, by omega, by omega⟩
  obtain ⟨F, hF, hF2⟩ := hFU
  unfold mI
  by_cases hb : gr l x = true
  · exact .inl ⟨.inl hb, by rw [hF]; exact wC t ((pa t wh ho x).1 (.inl hb)) F 12⟩
  have hb : gr l x = false := by simpa using hb
  by_cases hn : o9 t l x
  · exact .inl ⟨.inr hn, by rw [hF]; exact wC t ((pa t wh ho x).1 (.inr hn)) F 12⟩
  · right
    refine ⟨hb, ?_⟩
    have : ∃ w ∈ l, w.Ban = false ∧ ∃ f d way j h, dJ t w f d way ∧ gV t f d w.Match way j h ∧ eu x h = true := by
      apply Classical.byContradiction
      intro hc
      refine hn fun w w1 w2 f d way j h m hop => ?_
      cases hq : eu x h with
      | false => rfl
      | true => exact (hc ⟨w, w1, w2, f, d, way, j, h, m, hop, hq⟩).elim
    obtain ⟨w, w1, w2, f, d, way, j, h, m, hop, hq⟩ := this
    obtain ⟨k, D, qd, a, b, wi, _⟩ := m.way t wh
    obtain ⟨u, u1, u2⟩ := hop.at_
    have h0 := jb hq (p := (0, h.sw)) (by simp)
    have hx0 : x.a0 = h.sw := by
      have : x.get 0 = some x.a0 := by cases x; rfl
      simp only at h0
      rw [this] at h0; exact bM h0
    have hft : dX x (cG ((f : Int) + 1) ((d : Int) + 1) w.Match) = true := by
      have := hq
      unfold eu dX at this
      rw [List.all_cons, Bool.and_eq_true] at this
      rw [← hop.src, ← hop.dst, ← hop.m]
      exact this.2
    have hlen := wi.len
    have hj := (List.getElem?_eq_some_iff.1 u1).1
    have wn := wh.wf.sw
    have kl := wi.kl
    obtain ⟨W, e, hC⟩ := Bx t wh ho w1 w2 m wi (k - j) j (by omega) c9 12 x u (by omega) (by omega) (by omega) u1 (by rw [u2, hx0]) hb hft
    exact ⟨w, w1, w2, f, d, way, k, D, qd, a, b, m, wi, hft, W, e, hC.ev, hC.pos, by have := hC.le; omega, hC.last⟩
end
end Go.AM
end
section
set_option linter.unusedVariables false
namespace Go.AM
open Go
theorem Bz : qF = some true := by decide +kernel
end Go.AM
end
section
set_option linter.unusedVariables false
set_option linter.unusedSimpArgs false
namespace Go.AM
open Go
theorem BA (t : api_Topo) (wh : Wh t) {l : List bK} {p : al} (ho : ja t l p) {w : bK} (hw : w ∈ l) (hb : w.Ban = false) {f d : Nat} {way : List Int} (m : dJ t w f d way) {pt : api_Port} (hp : t.Hosts[f]? = some pt) {x : Pk} (hx : x.a0 = pt.Sw) (hft : dX x (cG ((f : Int) + 1) ((d : Int) + 1) w.Match) = true) : ¬ o9 t l x := by
  obtain ⟨hs, bs, hI, _⟩ := ho
  obtain ⟨k, D, qd, a, b, wi, pp, hpp, hpl⟩ := m.way t wh
  rw [hp] at hpp; cases hpp
  have hlen := wi.len
  obtain ⟨h, hh, hop⟩ := hI.hi w hw hb f d way m 0 (by omega)
  obtain ⟨u, u1, u2⟩ := hop.at_
  obtain ⟨l', hway, _⟩ := wi.wr
  rw [hway] at u1
  have hua : u = a := by simp at u1; omega
  subst hua
  have hsw : x.a0 = h.sw := by
    rw [hx]
    rcases lF t.Switches pt.Sw with ⟨i, h1, h2⟩ | ⟨h1, _⟩
    · have : i = u := by omega
      subst this
      rw [u2] at h2; exact (bM h2).symm
    · omega
  intro hn
  have := hn w hw hb f d way 0 h m hop
  have ht : eu x h = true := by
    unfold eu dX
    rw [List.all_cons]
    have : x.get 0 = some x.a0 := by cases x; rfl
    simp only [this, hsw, beq_self_eq_true, Bool.true_and]
    rw [hop.src, hop.dst, hop.m]
    exact hft
  rw [ht] at this; cases this
theorem wD {q : Pk} {s d : Int} {m : List c5} (h : dX q (cG s d m) = true) : q.a2 = s ∧ q.a3 = d := by
  have h2 := jb h (p := (2, s)) (by simp [cG])
  have h3 := jb h (p := (3, d)) (by simp [cG])
  have e2 : q.get 2 = some q.a2 := by cases q; rfl
  have e3 : q.get 3 = some q.a3 := by cases q; rfl
  simp only [e2, e3] at h2 h3
  exact ⟨bM h2, bM h3⟩
end Go.AM
end
section
set_option linter.unusedVariables false
set_option linter.unusedSimpArgs false
namespace Go.AM
open Go
section
variable (t : api_Topo)
end
end Go.AM
end
section
set_option linter.unusedVariables false
set_option linter.unusedSimpArgs false
namespace Go.AM
open Go
section
variable (t : api_Topo)
def cV (a b : Nat) : bK := ⟨(a : Int), (b : Int), [], false⟩
theorem rT (wh : Wh t) {a b : Nat} (ha : a < t.Hosts.length) (hb : b < t.Hosts.length) : ∃ c, gR t (cV a b) = some c ∧ mL t (cV a b) = some c ∧ (c = 0 → ∃ way, dJ t (cV a b) a b way) := by
  obtain ⟨c, hc, hm⟩ := wt t wh (cV a b) (by simp [cV])
  refine ⟨c, hc, ?_, fun h => ?_⟩
  rotate_left
  · obtain ⟨f, d, way, m⟩ := hm h
    have e1 : f = a := by have := m.hf; simp [cV] at this; omega
    have e2 : d = b := by have := m.hd; simp [cV] at this; omega
    subst e1; subst e2
    exact ⟨way, m⟩
  rw [← hc]
  have hf : (cV a b).From = (a : Int) := rfl
  have hd : (cV a b).To = (b : Int) := rfl
  have hmm : (cV a b).Match = [] := rfl
  generalize cV a b = w at hf hd hmm
  have d1 : decide (w.From ≥ 0) = true := decide_eq_true (by omega)
  have d2 : decide (w.From < (t.Hosts.length : Int)) = true := decide_eq_true (by omega)
  have d3 : decide (w.To ≥ 0) = true := decide_eq_true (by omega)
  have d4 : decide (w.To < (t.Hosts.length : Int)) = true := decide_eq_true (by omega)
  have d5 : decide (w.From < 0) = false := decide_eq_false (by omega)
  have d6 : decide (w.From ≥ (t.Hosts.length : Int)) = false := decide_eq_false (by omega)
  have d7 : decide (w.To < 0) = false := decide_eq_false (by omega)
  have d8 : decide (w.To ≥ (t.Hosts.length : Int)) = false := decide_eq_false (by omega)
  unfold mL gR mw
  simp only [Option.bind_some, d1, d2, d3, d4, d5, d6, d7, d8, Bool.and_self, Bool.not_true, Bool.false_eq_true, if_false, Bool.false_or]
  cases c3 : (w.From == w.To) with
  | true => rfl
  | false =>
    simp only [Bool.false_eq_true, if_false, hmm]
    rw [show bA 0 ((([] : List c5).length : Nat) : Int) = [] from rfl]
    simp only [b6, Option.bind_some]
    obtain ⟨p, q, x, y, gp, gq, hx, hy, lx, ly, e⟩ := wg t wh ha hb
    rw [hf, hd, e]
    obtain ⟨r, w1, w2, _⟩ := Be wh.wf (x : Int) (y : Int)
    simp only [cd, gp, gq, Option.bind_some, oY, hx, hy, w1, w2]
def gv (a b : Nat) : Bool := gR t (cV a b) == some 0
def eN (a : Nat) : Nat → List bK
  | 0 => []
  | b + 1 => eN a b ++ (if gv t a b then [cV a b] else [])
def dG (n : Nat) : Nat → List bK
  | 0 => []
  | a + 1 => dG n a ++ eN t a n
theorem BB {a b c : Nat} (h : b ≤ c) : eN t a b <+: eN t a c := by
  induction c with
  | zero => rw [show b = 0 by omega]; exact List.prefix_refl _
  | succ c ih =>
    by_cases e : b = c + 1
    · rw [e]; exact List.prefix_refl _
    · exact (ih (by omega)).trans (List.prefix_append _ _)
theorem BC {n a c : Nat} (h : a ≤ c) : dG t n a <+: dG t n c := by
  induction c with
  | zero => rw [show a = 0 by omega]; exact List.prefix_refl _
  | succ c ih =>
    by_cases e : a = c + 1
    · rw [e]; exact List.prefix_refl _
    · exact (ih (by omega)).trans (List.prefix_append _ _)
theorem wE (a b : Nat) : (eN t a b).length ≤ b := by
  induction b with
  | zero => exact Nat.le_refl _
  | succ b ih => simp only [eN, List.length_append]; split <;> simp <;> omega
theorem wF (n a : Nat) : (dG t n a).length ≤ a * n := by
  induction a with
  | zero => simp [dG]
  | succ a ih => simp only [dG, List.length_append]; have := wE t a n; rw [Nat.add_mul]; omega
theorem BD (a b : Nat) : ∀ w ∈ eN t a b, ∃ c, c < b ∧ w = cV a c ∧ gv t a c = true := by
  induction b with
  | zero => intro w h; cases h
  | succ b ih =>
    intro w h
    simp only [eN, List.mem_append] at h
    rcases h with h | h
    · obtain ⟨c, h1, h2⟩ := ih w h
      exact ⟨c, by omega, h2⟩
    · split at h
      · rename_i hb
        rw [List.mem_singleton] at h
        exact ⟨b, by omega, h, hb⟩
      · cases h
theorem BE (n a : Nat) : ∀ w ∈ dG t n a, ∃ b c, b < a ∧ c < n ∧ w = cV b c ∧ gv t b c = true := by
  induction a with
  | zero => intro w h; cases h
  | succ a ih =>
    intro w h
    simp only [dG, List.mem_append] at h
    rcases h with h | h
    · obtain ⟨b, c, h1, h2⟩ := ih w h
      exact ⟨b, c, by omega, h2⟩
    · obtain ⟨c, h1, h2, h3⟩ := BD t a n w h
      exact ⟨a, c, by omega, h1, h2, h3⟩
theorem BF {n a b : Nat} (ha : a < n) (hb : b < n) (hm : gv t a b = true) : (dG t n n)[(dG t n a ++ eN t a b).length]? = some (cV a b) := by
  have h1 : dG t n a ++ (eN t a b ++ [cV a b]) <+: dG t n n := by
    have : dG t n (a + 1) <+: dG t n n := BC t (by omega)
    refine List.IsPrefix.trans ?_ this
    have h2 : eN t a (b + 1) <+: eN t a n := BB t (by omega)
    simp only [eN, hm, if_true] at h2
    exact (List.prefix_append_right_inj _).2 h2
  obtain ⟨r, hr⟩ := h1
  rw [← hr]
  simp
theorem BG (wh : Wh t) : oJ t = some (dG t t.Hosts.length t.Hosts.length, 0) := by
  obtain ⟨c, hc, hcw⟩ := wa t
  have : c = 0 := hcw.2 wh
  subst this
  have wo := wh.ho
  unfold oJ
  rw [hc]
  simp only [Option.bind_some]
  rw [if_neg (by decide)]
  obtain ⟨z, e, hz⟩ := iH (qV t) (fun a s => s = dG t t.Hosts.length a) t.Hosts.length [] rfl (fun a s ha hs => by
    subst hs
    refine ⟨_, ?_, rfl⟩
    unfold qV
    obtain ⟨z, e, hz⟩ := iH (oI t (a : Int)) (fun b s => s = dG t t.Hosts.length a ++ eN t a b) t.Hosts.length (dG t t.Hosts.length a) (by simp [eN]) (fun b s hb hs => by
      subst hs
      refine ⟨_, ?_, rfl⟩
      obtain ⟨c, hc, _, _⟩ := rT t wh ha hb
      have hc2 : gR t ⟨(a : Int), (b : Int), [], false⟩ = some c := hc
      simp only [oI, hc2, Option.bind_some]
      have h1 := wF t t.Hosts.length a
      have h2 := wE t a b
      have h3 : a * t.Hosts.length ≤ 24 * 24 := Nat.mul_le_mul (by omega) (by omega)
      by_cases cz : c = 0
      · subst cz
        have : gv t a b = true := by unfold gv; rw [hc]; rfl
        rw [if_pos (by rfl), dW (by simp; omega)]
        simp [eN, this, cV]
      · have : gv t a b = false := by unfold gv; rw [hc]; simpa using cz
        rw [if_neg (by simpa using cz)]
        simp [eN, this])
    show (cQ (oI t (a : Int)) (bA 0 (t.Hosts.length : Int)) (dG t t.Hosts.length a)).bind _ = _
    rw [e, hz]; rfl)
  rw [e, hz]; rfl
end
theorem law_RouteAll (t : api_Topo) (s : A2 Int) (h0 : 0 ≤ s.a0 ∧ s.a0 ≤ 10000000) : law30_RouteAll t s = some true := by
  unfold law30_RouteAll
  simp only [Bz, Option.bind_some, Bool.not_true, Bool.false_eq_true, if_false]
  obtain ⟨c, hc, hcw⟩ := Bh t
  rw [hc]
  simp only [Option.bind_some]
  by_cases c0 : (c != 0) = true
  · rw [if_pos c0]
  rw [if_neg c0]
  have wh := hcw (by simpa using c0)
  have wo := wh.ho
  rw [BG t wh]
  simp only [Option.bind_some, bne_self_eq_false, Bool.false_eq_true, if_false]
  generalize hL : dG t t.Hosts.length t.Hosts.length = L
  have hLl : L.length ≤ 576 := by
    have := wF t t.Hosts.length t.Hosts.length
    rw [hL] at this
    have h3 : t.Hosts.length * t.Hosts.length ≤ 24 * 24 := Nat.mul_le_mul (by omega) (by omega)
    omega
  have inner : ∀ a : Nat, a < t.Hosts.length → mN t (L, 0) (a : Int) (((dG t t.Hosts.length a).length : Nat) : Int) = some (.next (((dG t t.Hosts.length (a + 1)).length : Nat) : Int)) := by
    intro a ha
    unfold mN
    have hloop := ms (mM t (L, 0) (a : Int)) (fun b s => s = (((dG t t.Hosts.length a ++ eN t a b).length : Nat) : Int)) (fun _ => False) (fun _ => False) t.Hosts.length 0 (((dG t t.Hosts.length a).length : Nat) : Int) (by simp [eN]) (fun b s _ hb hs => by
      have hb : b < t.Hosts.length := by omega
      subst hs
      left
      obtain ⟨c, hc1, hc2, _⟩ := rT t wh ha hb
      have hc2' : mL t ⟨(a : Int), (b : Int), [], false⟩ = some c := hc2
      refine ⟨_, ?_, rfl⟩
      simp only [mM, hc2', Option.bind_some]
      by_cases cz : c = 0
      · subst cz
        have hm : gv t a b = true := by unfold gv; rw [hc1]; rfl
        have hat := BF t ha hb hm
        rw [hL] at hat
        have hlt := (List.getElem?_eq_some_iff.1 hat).1
        rw [if_neg (by decide), if_neg (by simp only [decide_eq_true_eq]; omega), cd, hat]
        simp only [Option.bind_some, cV, bne_self_eq_false, Bool.false_eq_true, if_false]
        rw [show ((((([] : List c5).length : Nat) : Int)) != 0) = false from rfl]
        simp only [Bool.false_eq_true, if_false, Option.bind_some]
        congr 2
        rw [jB (by omega) (by omega)]
        simp [eN, hm]; omega
      · have hm : gv t a b = false := by unfold gv; rw [hc1]; simpa using cz
        rw [if_pos (by simpa using cz)]
        simp [eN, hm])
    rw [Nat.zero_add] at hloop
    rcases hloop with ⟨s, e, h | h⟩ | ⟨r', e, h⟩
    · have e : b6 (mM t (L, 0) (a : Int)) (bA 0 (t.Hosts.length : Int)) (((dG t t.Hosts.length a).length : Nat) : Int) = some (.done s) := e
      show (b6 (mM t (L, 0) (a : Int)) (bA 0 (t.Hosts.length : Int)) (((dG t t.Hosts.length a).length : Nat) : Int)).bind _ = _
      rw [e, h]; rfl
    · exact h.elim
    · exact h.elim
  have hloop := ms (mN t (L, 0)) (fun a s => s = (((dG t t.Hosts.length a).length : Nat) : Int)) (fun _ => False) (fun _ => False) t.Hosts.length 0 0 rfl (fun a s _ ha hs => by
    subst hs
    exact .inl ⟨_, inner a (by omega), rfl⟩)
  rw [Nat.zero_add] at hloop
  rcases hloop with ⟨z, e, h | h⟩ | ⟨r', e, h⟩
  rotate_left
  · exact h.elim
  · exact h.elim
  have e : b6 (mN t (L, 0)) (bA 0 (t.Hosts.length : Int)) 0 = some (.done z) := e
  rw [e]
  rw [hL] at h
  subst h
  simp only [Option.bind_some, bne_self_eq_false, Bool.false_eq_true, if_false]
  have hmem : ∀ w ∈ L, ∃ b c, b < t.Hosts.length ∧ c < t.Hosts.length ∧ w = cV b c ∧ gv t b c = true := by
    rw [← hL]; exact BE t t.Hosts.length t.Hosts.length
  have hmay0 : ∀ w ∈ L, gR t w = some 0 := fun w hw => by
    obtain ⟨b, c, h1, h2, rfl, h3⟩ := hmem w hw
    unfold gv at h3
    simpa using h3
  obtain ⟨r, er, hr1, hr2⟩ := Bp t (l := L) (M := 0) (by omega) (fun w hw => by obtain ⟨b, c, _, _, rfl, _⟩ := hmem w hw; simp [cV]) (by omega)
  rw [er]
  simp only [Option.bind_some]
  by_cases c2 : ((r.2 == 2) || ((L.length : Int) == 0)) = true
  · rw [if_pos c2]
  rw [if_neg c2]
  simp only [Bool.or_eq_true, beq_iff_eq, not_or] at c2
  have hr0 : r.2 = 0 := (hr2 wh hmay0).resolve_right c2.1
  obtain ⟨_, ho⟩ := hr1 hr0
  obtain ⟨n, hn⟩ : ∃ n : Nat, s.a0 = (n : Int) := Int.eq_ofNat_of_zero_le h0.1
  have erem : mg (IntKind.i64.wrap s.a0) (L.length : Int) = some ((n % L.length : Nat) : Int) := by
    rw [jB h0.1 h0.2, hn]
    unfold mg
    rw [if_neg c2.2]
    congr 1
  rw [erem]
  have hlt : n % L.length < L.length := Nat.mod_lt _ (by omega)
  have hat : L[n % L.length]? = some L[n % L.length] := bU hlt
  obtain ⟨a, b, ha, hb, hw, hm⟩ := hmem _ (c7 hat)
  rw [hw] at hat
  have hwm : cV a b ∈ L := c7 hat
  obtain ⟨c, hc1, _, hc3⟩ := rT t wh ha hb
  rw [hmay0 _ hwm] at hc1
  obtain ⟨way, m⟩ := hc3 (bM hc1).symm
  have gp : t.Hosts[a]? = some t.Hosts[a] := bU ha
  generalize t.Hosts[a] = p at gp
  have w1 : IntKind.u16.wrap (IntKind.i64.wrap ((cV a b).From + 1)) = (a : Int) + 1 := by
    rw [jB (by simp [cV]; omega) (by simp [cV]; omega), qo]; simp [cV]; omega
  have w2 : IntKind.u16.wrap (IntKind.i64.wrap ((cV a b).To + 1)) = (b : Int) + 1 := by
    rw [jB (by simp [cV]; omega) (by simp [cV]; omega), qo]; simp [cV]; omega
  simp only [Option.bind_some, cd, hat, w1, w2]
  rw [show (cV a b).From = (a : Int) from rfl, cd, gp]
  simp only [Option.bind_some]
  generalize hx : A8.mk p.Sw p.Pt ((a : Int) + 1) ((b : Int) + 1) 0 (IntKind.u16.wrap s.a1) 0 0 = x
  have hfx : dX x (cG ((a : Int) + 1) ((b : Int) + 1) (cV a b).Match) = true := by
    rw [← hx]
    unfold dX cG cV
    simp [A8.get, A8.l, be]
  rcases By t wh ho x with ⟨hc, _⟩ | ⟨_, w, v1, v2, f, d, way', k, D, qd, a', b', m', wi, hft, W, ew, hC⟩
  · exfalso
    rcases hc with hc | hc
    · unfold gr at hc
      obtain ⟨w, v1, v2⟩ := List.any_eq_true.1 hc
      obtain ⟨b', c', _, _, rfl, _⟩ := hmem w v1
      simp [cV] at v2
    · exact BA t wh ho hwm rfl m gp (x := x) (by rw [← hx]) hfx hc
  · rw [ew]
    simp only [Option.bind_some]
    rw [if_neg (by simp [hr0])]
    obtain ⟨y, y1, y2, y3⟩ := hC.last
    have hpos := hC.pos
    have hle := hC.le
    have hev := hC.ev
    have hgl : be W (IntKind.i64.wrap ((W.length : Int) - 1)) = some y := by
      rw [jB (by omega) (by omega), show (W.length : Int) - 1 = ((W.length - 1 : Nat) : Int) by omega, cd, ← y1, List.getLast?_eq_getElem?]
    have hmod : (((W.length : Int).tmod 2) == 0) = true := by
      have : (W.length : Int).tmod 2 = 0 := by
        rw [Int.tmod_eq_emod_of_nonneg (by omega)]; omega
      rw [this]; rfl
    rw [show be [W] 0 = some W from rfl]
    simp only [Option.bind_some, hgl, hmod, if_true]
    have hd2 := (wD hft).2
    have hd3 := (wD hfx).2
    have hdb : d = b := by omega
    subst hdb
    rw [show (cV a d).To = (d : Int) from rfl, cd, wi.hq]
    simp only [Option.bind_some, y2, y3, beq_self_eq_true, if_true]
end Go.AM
end
