import Derived.Test.YtnnkfanmokeiaaaRB4
import Derived.Test.YtnnkfanmokeiaaaRtT
/-  Several texts in one. -/
section
set_option linter.unusedVariables false
set_option linter.unusedSimpArgs false
namespace Go.AM
open Go
section
variable (t : api_Topo)
theorem AC {p : api_Port} (h : p ∉ dD t.Links) : ic t p = some (⟨0, 0⟩, false) := by
  unfold ic
  rw [kI _ (fx p) t.Links (fun j x hj => by
    simp only [n6, bW, hj, Option.bind_some, fx]
    by_cases c : (x.a0 == p) = true
    · simp only [c, if_true]; rfl
    · simp only [c, if_false]
      by_cases c2 : (x.a1 == p) = true
      · simp only [c2, if_true]; rfl
      · simp only [c2, if_false]; rfl)]
  have : ∀ l : List (A2 api_Port), p ∉ dD l → d5 (fx p) l = none := by
    intro l
    induction l with
    | nil => intro _; rfl
    | cons x l ih =>
      intro hp
      simp only [dD, List.flatMap_cons, List.mem_append, List.mem_cons, List.not_mem_nil, or_false, not_or] at hp
      have e0 : (x.a0 == p) = false := by simp only [beq_eq_false_iff_ne]; exact fun e => hp.1.1 e.symm
      have e1 : (x.a1 == p) = false := by simp only [beq_eq_false_iff_ne]; exact fun e => hp.1.2 e.symm
      simp only [d5, fx, e0, e1]
      exact ih hp.2
  rw [this t.Links h]; rfl
theorem AD {p : api_Port} (h : p ∈ t.Hosts) : kO t p = some true := by
  unfold kO
  rw [kI _ (fun x => if x == p then some true else none) t.Hosts (fun j x hj => by
    simp only [qz, bW, hj, Option.bind_some]
    by_cases c : (x == p) = true
    · simp only [c, if_true]; rfl
    · simp only [c, if_false]; rfl)]
  rw [u5, List.any_eq_true.2 ⟨p, h, by simp⟩]; rfl
theorem vA (wh : Wh t) {d : Nat} {q : api_Port} (hq : t.Hosts[d]? = some q) (x : Pk) (h0 : x.a0 = q.Sw) (h1 : x.a1 = q.Pt) : iD t x = some (x, 1) := by
  have hm : q ∈ t.Hosts := cU hq
  have e : api_Port.mk x.a0 x.a1 = q := by rw [h0, h1]
  unfold iD
  rw [e, AC t (fun hp => (List.nodup_append.1 wh.hn).2.2 q hp q hm rfl)]
  simp only [Option.bind_some, Bool.false_eq_true, if_false, AD t hm, if_true]
def ck (q : Pk) (sw pt : Int) : Pk := ⟨sw, pt, q.a2, q.a3, q.a4, q.a5, q.a6, q.a7⟩
theorem vB (q : Pk) (n : Int) : fu q 1 n = ck q q.a0 n := by cases q; rfl
theorem vC {q : Pk} (sw pt : Int) {l : List (Int × Int)} (h : ∀ p ∈ l, 2 ≤ p.1 ∧ p.1 < 8) : dp (ck q sw pt) l = dp q l := by
  unfold dp
  rw [Bool.eq_iff_iff, List.all_eq_true, List.all_eq_true]
  have key : ∀ p ∈ l, (ck q sw pt).get p.1 = q.get p.1 := fun p hp => by
    have := h p hp
    obtain ⟨f, n⟩ := p
    simp only at this ⊢
    rcases uv (f := f) (by omega) this.2 with e | e | e | e | e | e | e | e
    · omega
    · omega
    all_goals subst e; cases q; rfl
  exact ⟨fun g p hp => by rw [← key p hp]; exact g p hp, fun g p hp => by rw [key p hp]; exact g p hp⟩
theorem vD {w : api_Want} {f d : Nat} {way : List Int} (m : dE t w f d way) (s e : Int) : ∀ p ∈ cr s e w.Match, 2 ≤ p.1 ∧ p.1 < 8 := by
  intro p hp
  simp only [cr, List.mem_cons, List.mem_map] at hp
  rcases hp with rfl | rfl | ⟨x, hx, rfl⟩
  · exact ⟨by simp, by simp⟩
  · exact ⟨by simp, by simp⟩
  · have := m.ok x hx
    exact ⟨by simp only; omega, by simp only; omega⟩
theorem AE {l : List api_Want} (hl : ∀ w ∈ l, ∃ f d way, dE t w f d way) (q : Pk) (sw pt : Int) : fP l (ck q sw pt) = fP l q := by
  unfold fP
  rw [Bool.eq_iff_iff, List.any_eq_true, List.any_eq_true]
  have key : ∀ w ∈ l, dp (ck q sw pt) (cr (w.From + 1) (w.To + 1) w.Match) = dp q (cr (w.From + 1) (w.To + 1) w.Match) := fun w hw => by
    obtain ⟨f, d, way, m⟩ := hl w hw
    exact vC sw pt (vD t m _ _)
  exact ⟨fun ⟨w, h1, h2⟩ => ⟨w, h1, by rw [← key w h1]; exact h2⟩, fun ⟨w, h1, h2⟩ => ⟨w, h1, by rw [key w h1]; exact h2⟩⟩
theorem ik.may {l : List api_Want} {p : ak} (h : ik t l p) : ∀ w ∈ l, ∃ f d way, dE t w f d way := by
  obtain ⟨hs, bs, hI, _⟩ := h
  exact hI.may
structure vE (q : api_Port) (x : Pk) (n : Nat) (W : List Pk) : Prop where
  ev : W.length % 2 = 0
  pos : 2 ≤ W.length
  le : W.length ≤ 2 * n
  last : ∃ y, W.getLast? = some y ∧ y.a0 = q.Sw ∧ y.a1 = q.Pt
theorem AF (wh : Wh t) {l : List api_Want} {p : ak} (ho : ik t l p) {w : api_Want} (hw : w ∈ l) (hb : w.Ban = false) {f d : Nat} {way : List Int} (m : dE t w f d way)
    {k : Nat} {D : List Int} {qd : api_Port} {a b : Nat} (wi : j8 t f d way k D qd a b) :
    ∀ (r j : Nat), j + r = k → ∀ (F H : Nat) (x : Pk) (u : Nat), r < F → r < H → H ≤ 12 → way[j]? = some (u : Int) → t.Switches[u]? = some x.a0 → fP l x = false → dp x (cr ((f : Int) + 1) ((d : Int) + 1) w.Match) = true →
      ∃ W, jc F t p [] x (H : Int) = some ([W], 0) ∧ vE qd x (r + 1) W := by
  intro r
  induction r with
  | zero =>
    intro j hj F H x u hF hH hH2 hu hsw hbn hft
    obtain ⟨F, rfl⟩ : ∃ F', F = F' + 1 := ⟨F - 1, by omega⟩
    obtain ⟨l', hway, hW⟩ := wi.wr
    have hlen := wi.len
    obtain ⟨v, g1, _, g3, _⟩ := hW.get wi.da j (by omega)
    rw [← hway, hu] at g1
    have huv : u = v := by have := bJ g1; omega
    subst huv
    have hub : u = b := by
      have h1 := wi.ds.2 u _ g3
      rw [show k - j = 0 by omega] at h1
      exact h1.zero.symm
    have hx0 : x.a0 = qd.Sw := by
      rcases kY t.Switches qd.Sw with ⟨i, h1, h2⟩ | ⟨h1, _⟩
      · have := wi.hb
        have : i = u := by omega
        subst this
        rw [hsw] at h2; exact bJ h2
      · have := wi.hb; omega
    have hpt : j7 t d way j = some qd.Pt := by
      unfold j7
      rw [if_neg (by omega), bW, wi.hq]; rfl
    have hop : gF t f d w.Match way j ⟨x.a0, (f : Int) + 1, (d : Int) + 1, w.Match, qd.Pt⟩ := ⟨⟨u, hu, hsw⟩, rfl, rfl, rfl, hpt⟩
    have hbq : dR x ⟨x.a0, (f : Int) + 1, (d : Int) + 1, w.Match, qd.Pt⟩ = true := by
      unfold dR dp
      rw [List.all_cons]
      have : x.get 0 = some x.a0 := by cases x; rfl
      simp only [this, beq_self_eq_true, Bool.true_and]
      exact hft
    have hmk := (oH t wh ho x).2 hbn w hw hb f d way j _ m hop hbq
    rw [vB] at hmk
    have hnx := vA t wh wi.hq (ck x x.a0 qd.Pt) hx0 rfl
    refine ⟨[x, ck x x.a0 qd.Pt], ?_, ⟨by simp, by simp, by simp, _, rfl, hx0, rfl⟩⟩
    show jb (jc F) t p [] x (H : Int) = _
    unfold jb
    rw [hmk]
    simp only [Option.bind_some]
    rw [if_neg (by decide), if_neg (by simp)]
    rw [show bu 0 (([ck x x.a0 qd.Pt].length : Nat) : Int) = [0] from rfl]
    simp only [bV, qA]
    rw [show aW [ck x x.a0 qd.Pt] 0 = some (ck x x.a0 qd.Pt) from rfl]
    simp only [Option.bind_some, hnx]
    rw [show ((1 : Int) != 0) = true from rfl]
    simp only [Bool.true_or, if_true]
    rw [dQ (by simp)]
    simp only [Option.bind_some, List.nil_append]
    rw [if_neg (by simp)]
    rfl
  | succ r ih =>
    intro j hj F H x u hF hH hH2 hu hsw hbn hft
    obtain ⟨F, rfl⟩ : ∃ F', F = F' + 1 := ⟨F - 1, by omega⟩
    obtain ⟨l', hway, hW⟩ := wi.wr
    have hlen := wi.len
    obtain ⟨v, g1, _, g3, g4⟩ := hW.get wi.da j (by omega)
    rw [← hway, hu] at g1
    have huv : u = v := by have := bJ g1; omega
    subst huv
    obtain ⟨v, v1, v2⟩ := g4 (by omega)
    rw [← hway] at v1
    have hv := (gD v2).2
    have hsv : t.Switches[v]? = some t.Switches[v] := bM hv
    generalize t.Switches[v] = vb at hsv
    obtain ⟨pp, p1, p2⟩ := vf wh.wf hsw hsv
    have p3 : ∃ o : api_Port, ic t (api_Port.mk x.a0 pp.1) = some (o, true) ∧ o.Sw = vb := by
      rcases p2 with ⟨h, _⟩ | ⟨_, _, h⟩
      · exact (h v2).elim
      · exact h
    obtain ⟨o, o1, o2⟩ := p3
    have hpt : j7 t d way j = some pp.1 := by
      unfold j7
      rw [if_pos (by omega), bW, hu, show (j : Int) + 1 = ((j + 1 : Nat) : Int) by omega, bW, v1]
      simp only [Option.bind_some, p1, Option.map_some]
    have hop : gF t f d w.Match way j ⟨x.a0, (f : Int) + 1, (d : Int) + 1, w.Match, pp.1⟩ := ⟨⟨u, hu, hsw⟩, rfl, rfl, rfl, hpt⟩
    have hbq : dR x ⟨x.a0, (f : Int) + 1, (d : Int) + 1, w.Match, pp.1⟩ = true := by
      unfold dR dp
      rw [List.all_cons]
      have : x.get 0 = some x.a0 := by cases x; rfl
      simp only [this, beq_self_eq_true, Bool.true_and]
      exact hft
    have hmk := (oH t wh ho x).2 hbn w hw hb f d way j _ m hop hbq
    rw [vB] at hmk
    have hnx : iD t (ck x x.a0 pp.1) = some (ck x o.Sw o.Pt, 0) := by
      unfold iD
      rw [show api_Port.mk (ck x x.a0 pp.1).a0 (ck x x.a0 pp.1).a1 = api_Port.mk x.a0 pp.1 from rfl, o1]; rfl
    obtain ⟨W, e, hC⟩ := ih (j + 1) (by omega) F (H - 1) (ck x o.Sw o.Pt) v (by omega) (by omega) (by omega) v1 (by rw [hsv]; exact congrArg some o2.symm) (by rw [AE t (ik.may t ho)]; exact hbn) (by rw [vC _ _ (vD t m _ _)]; exact hft)
    have hw1 : IntKind.i64.wrap ((H : Int) - 1) = ((H - 1 : Nat) : Int) := by rw [om (by omega) (by omega)]; omega
    refine ⟨[x, ck x x.a0 pp.1] ++ W, ?_, ⟨by have := hC.ev; simp; omega, by simp, by have := hC.le; simp; omega, ?_⟩⟩
    · show jb (jc F) t p [] x (H : Int) = _
      unfold jb
      rw [hmk]
      simp only [Option.bind_some]
      rw [if_neg (by decide), if_neg (by simp)]
      rw [show bu 0 (([ck x x.a0 pp.1].length : Nat) : Int) = [0] from rfl]
      simp only [bV, qA]
      rw [show aW [ck x x.a0 pp.1] 0 = some (ck x x.a0 pp.1) from rfl]
      simp only [Option.bind_some, hnx]
      have c1 : (((0 : Int) != 0) || ((H : Int) == 1)) = false := by simp; omega
      rw [c1, hw1, e]
      simp only [Bool.false_eq_true, if_false, Option.bind_some, bne_self_eq_false]
      rw [show bu 0 (([W].length : Nat) : Int) = [0] from rfl]
      simp only [cT, tX]
      rw [show aW [W] 0 = some W from rfl]
      simp only [Option.bind_some]
      rw [dQ (by have := hC.le; simp; omega)]
      simp only [Option.bind_some]
      rw [dQ (by simp)]
      simp only [Option.bind_some, List.nil_append]
      rw [if_neg (by simp)]
      rfl
    · obtain ⟨y, y1, y2⟩ := hC.last
      refine ⟨y, ?_, y2⟩
      have : W ≠ [] := by intro e; subst e; simp at y1
      rw [List.getLast?_append]
      simp [y1]
theorem vF {p : ak} {x : Pk} (h : jW p [] x = some ([], 0)) (F : Nat) (H : Int) : jc (F + 1) t p [] x H = some ([[x]], 0) := by
  show jb (jc F) t p [] x H = _
  unfold jb
  rw [h]; rfl
theorem AG (wh : Wh t) {l : List api_Want} {p : ak} (ho : ik t l p) (x : Pk) :
    ((fP l x = true ∨ oF t l x) ∧ mb t p [] x 12 = some ([[x]], 0)) ∨
    (fP l x = false ∧ ∃ w ∈ l, w.Ban = false ∧ ∃ f d way k D qd a b, dE t w f d way ∧ j8 t f d way k D qd a b ∧ dp x (cr ((f : Int) + 1) ((d : Int) + 1) w.Match) = true ∧ ∃ W, mb t p [] x 12 = some ([W], 0) ∧ vE qd x 12 W) := by
  have hFU : ∃ F, cW = F + 1 ∧ 13 ≤ F := by
    obtain ⟨m, hm⟩ := lP 20 (by omega)
    exact ⟨m + 19, by omega, by omega⟩
  obtain ⟨F, hF, hF2⟩ := hFU
  unfold mb
  by_cases hb : fP l x = true
  · exact .inl ⟨.inl hb, by rw [hF]; exact vF t ((oH t wh ho x).1 (.inl hb)) F 12⟩
  have hb : fP l x = false := by simpa using hb
  by_cases hn : oF t l x
  · exact .inl ⟨.inr hn, by rw [hF]; exact vF t ((oH t wh ho x).1 (.inr hn)) F 12⟩
  · right
    refine ⟨hb, ?_⟩
    have : ∃ w ∈ l, w.Ban = false ∧ ∃ f d way j h, dE t w f d way ∧ gF t f d w.Match way j h ∧ dR x h = true := by
      apply Classical.byContradiction
      intro hc
      refine hn fun w w1 w2 f d way j h m hop => ?_
      cases hq : dR x h with
      | false => rfl
      | true => exact (hc ⟨w, w1, w2, f, d, way, j, h, m, hop, hq⟩).elim
    obtain ⟨w, w1, w2, f, d, way, j, h, m, hop, hq⟩ := this
    obtain ⟨k, D, qd, a, b, wi, _⟩ := m.way t wh
    obtain ⟨u, u1, u2⟩ := hop.at_
    have h0 := iJ hq (p := (0, h.sw)) (by simp)
    have hx0 : x.a0 = h.sw := by
      have : x.get 0 = some x.a0 := by cases x; rfl
      simp only at h0
      rw [this] at h0; exact bJ h0
    have hft : dp x (cr ((f : Int) + 1) ((d : Int) + 1) w.Match) = true := by
      have := hq
      unfold dR dp at this
      rw [List.all_cons, Bool.and_eq_true] at this
      rw [← hop.src, ← hop.dst, ← hop.m]
      exact this.2
    have hlen := wi.len
    have hj := (List.getElem?_eq_some_iff.1 u1).1
    have wn := wh.wf.sw
    have kl := wi.kl
    obtain ⟨W, e, hC⟩ := AF t wh ho w1 w2 m wi (k - j) j (by omega) cW 12 x u (by omega) (by omega) (by omega) u1 (by rw [u2, hx0]) hb hft
    exact ⟨w, w1, w2, f, d, way, k, D, qd, a, b, m, wi, hft, W, e, hC.ev, hC.pos, by have := hC.le; omega, hC.last⟩
end
end Go.AM
end
section
set_option linter.unusedVariables false
namespace Go.AM
open Go
theorem AH : qj = some true := by decide +kernel
end Go.AM
end
section
set_option linter.unusedVariables false
set_option linter.unusedSimpArgs false
namespace Go.AM
open Go
theorem AI {l : List api_Pair} {f : api_Pair → Option Bool} {p : api_Pair → Bool} (h : ∀ x ∈ l, f x = some (p x)) : nG l f = some (l.any p) := by
  unfold nG qh
  have hloop := jQ (qg l f) l (fun pre _ => ∀ x ∈ pre, p x = false) (fun _ => False) (fun r => 0 ≤ r ∧ l.any p = true) () (fun x h => by cases h) (fun i x s hx hP => by
    have hm := cU hx
    simp only [qg, bW, hx, Option.bind_some, h x hm]
    cases hp : p x with
    | true => exact .inr (.inr ⟨_, rfl, by omega, List.any_eq_true.2 ⟨x, hm, hp⟩⟩)
    | false => exact .inl ⟨(), rfl, fun y hy => by
        rcases List.mem_append.1 hy with hy | hy
        · exact hP y hy
        · rw [List.mem_singleton] at hy; subst hy; exact hp⟩)
  rcases hloop with ⟨s, e, hn | hn⟩ | ⟨r, e, h1, h2⟩
  · rw [e]
    have : l.any p = false := by
      rw [Bool.eq_false_iff]
      intro hc
      obtain ⟨x, hx, hpx⟩ := List.any_eq_true.1 hc
      rw [hn x hx] at hpx; cases hpx
    rw [this]; rfl
  · exact hn.elim
  · rw [e, h2]
    simp only [Option.bind_some]
    rw [decide_eq_true (show r ≥ 0 from h1)]
theorem AJ {q : Pk} {m : List api_Pair} (h : ∀ p ∈ m, 0 ≤ p.F ∧ p.F < 8) : nH q m = some (dp q (mP m)) := by
  unfold nH
  rw [AI (p := fun y => !(q.get y.F == some y.N)) (fun x hx => by
    have hx2 := h x hx
    obtain ⟨v, hv⟩ : ∃ v, q.get x.F = some v := by
      obtain ⟨_, _, g, _⟩ := qU q 0 hx2.1 hx2.2
      exact g
    simp only [qf, qe, Option.bind_some]
    rw [decide_eq_true (show x.F ≥ 0 from hx2.1), decide_eq_true hx2.2]
    simp only [Bool.and_self, Bool.not_true, Bool.false_eq_true, if_false, hv, Option.bind_some]
    congr 1)]
  simp only [Option.bind_some]
  congr 1
  unfold dp mP
  induction m with
  | nil => rfl
  | cons x m ih =>
    simp only [List.any_cons, List.map_cons, List.all_cons, Bool.not_or, Bool.not_not]
    rw [ih fun p hp => h p (by simp [hp])]
def fz (i : Int) (q : Pk) (w : api_Want) : Bool := decide (w.From = i) && dp q (cr (w.From + 1) (w.To + 1) w.Match)
theorem AK {w : api_Want} (h : ∀ p ∈ w.Match, 0 ≤ p.F ∧ p.F < 8) (i : Int) {q : Pk} (h2 : 0 ≤ q.a2 ∧ q.a2 < 65536) (h3 : 0 ≤ q.a3 ∧ q.a3 < 65536) : nJ w i q = some (fz i q w) := by
  unfold nJ fz
  have e2 : q.get 2 = some q.a2 := by cases q; rfl
  have e3 : q.get 3 = some q.a3 := by cases q; rfl
  rw [jO (n := q.a2) (by omega) (by omega), jO (n := q.a3) (by omega) (by omega), jO (n := q.a2 - 1) (by omega) (by omega), jO (n := q.a3 - 1) (by omega) (by omega)]
  by_cases c1 : w.From = i
  · rw [if_pos (by simpa using c1), decide_eq_true c1, Bool.true_and]
    unfold cr
    rw [show dp q ((2, w.From + 1) :: (3, w.To + 1) :: w.Match.map fun p => (p.F, p.N)) = ((q.get 2 == some (w.From + 1)) && ((q.get 3 == some (w.To + 1)) && dp q (mP w.Match))) from rfl, e2, e3]
    by_cases c2 : q.a2 - 1 = w.From
    · rw [if_pos (by simpa using c2), show ((some q.a2 : Option Int) == some (w.From + 1)) = true by simp; omega, Bool.true_and]
      by_cases c3 : q.a3 - 1 = w.To
      · rw [if_pos (by simpa using c3), show ((some q.a3 : Option Int) == some (w.To + 1)) = true by simp; omega, Bool.true_and, AJ h]; rfl
      · rw [if_neg (by simpa using c3), show ((some q.a3 : Option Int) == some (w.To + 1)) = false by simp; omega]; rfl
    · rw [if_neg (by simpa using c2), show ((some q.a2 : Option Int) == some (w.From + 1)) = false by simp; omega]; rfl
  · rw [if_neg (by simpa using c1), decide_eq_false c1]; rfl
theorem AL (t : api_Topo) {l : List api_Want} (h : ∀ w ∈ l, ∀ p ∈ w.Match, 0 ≤ p.F ∧ p.F < 8) (i : Int) {q : Pk} (h2 : 0 ≤ q.a2 ∧ q.a2 < 65536) (h3 : 0 ≤ q.a3 ∧ q.a3 < 65536) :
    ∃ to ok, l7 t l i q = some (to, ok) ∧ (ok = true → (∃ w ∈ l, w.Ban = false ∧ fz i q w = true ∧ to = w.To) ∧ ∀ w ∈ l, w.Ban = true → fz i q w = false) ∧ (ok = false → (∃ w ∈ l, w.Ban = true ∧ fz i q w = true) ∨ ∀ w ∈ l, fz i q w = false) := by
  unfold l7
  have hloop := jQ (qi l i q) l (fun pre s => (∀ w ∈ pre, w.Ban = true → fz i q w = false) ∧ (s.2 = true → ∃ w ∈ pre, w.Ban = false ∧ fz i q w = true ∧ s.1 = w.To) ∧ (s.2 = false → ∀ w ∈ pre, fz i q w = false)) (fun _ => False) (fun r => r = (0, false) ∧ ∃ w ∈ l, w.Ban = true ∧ fz i q w = true) (0, false) ⟨fun w h => (by cases h), fun h => (by cases h), fun _ w h => (by cases h)⟩ (fun j w s hx hP => by
    obtain ⟨to, ok⟩ := s
    obtain ⟨p1, p2, p3⟩ := hP
    have hm := cU hx
    simp only [qi, bW, hx, Option.bind_some, AK (h w hm) i h2 h3]
    cases ho : fz i q w with
    | false =>
      simp only [Bool.not_false, if_true, Option.bind_some]
      refine .inl ⟨_, rfl, fun v hv hvb => ?_, fun hk => ?_, fun hk v hv => ?_⟩
      · rcases List.mem_append.1 hv with hv | hv
        · exact p1 v hv hvb
        · rw [List.mem_singleton] at hv; subst hv; exact ho
      · obtain ⟨v, v1, v2⟩ := p2 hk
        exact ⟨v, by simp [v1], v2⟩
      · rcases List.mem_append.1 hv with hv | hv
        · exact p3 hk v hv
        · rw [List.mem_singleton] at hv; subst hv; exact ho
    | true =>
      simp only [Bool.not_true, Bool.false_eq_true, if_false]
      cases hb : w.Ban with
      | true => exact .inr (.inr ⟨_, rfl, rfl, w, hm, hb, ho⟩)
      | false =>
        simp only [Bool.false_eq_true, if_false, Option.bind_some]
        refine .inl ⟨_, rfl, fun v hv hvb => ?_, fun _ => ⟨w, by simp, hb, ho, rfl⟩, fun hk => (by cases hk)⟩
        rcases List.mem_append.1 hv with hv | hv
        · exact p1 v hv hvb
        · rw [List.mem_singleton] at hv; subst hv; rw [hb] at hvb; cases hvb)
  rcases hloop with ⟨⟨to, ok⟩, e, ⟨p1, p2, p3⟩ | h⟩ | ⟨r, e, rfl, hr⟩
  · rw [e]
    exact ⟨to, ok, rfl, fun hk => ⟨p2 hk, p1⟩, fun hk => .inr (p3 hk)⟩
  · exact h.elim
  · rw [e]
    exact ⟨0, false, rfl, fun h => (by cases h), fun _ => .inl hr⟩
theorem AN (l : List api_Want) : ∃ b, nK l = some b ∧ (b = true → l.length ≤ 30 ∧ ∀ w ∈ l, w.Match.length ≤ 8) := by
  unfold nK
  by_cases c : (l.length : Int) > 30
  · rw [decide_eq_true c, if_pos rfl]; exact ⟨false, rfl, fun h => by cases h⟩
  rw [decide_eq_false c, if_neg (by decide)]
  have hloop := jQ (qk l) l (fun pre _ => ∀ w ∈ pre, w.Match.length ≤ 8) (fun _ => False) (fun r => r = false) () (fun x h => by cases h) (fun i x s hx hP => by
    simp only [qk, bW, hx, Option.bind_some]
    by_cases c2 : (x.Match.length : Int) > 8
    · rw [decide_eq_true c2, if_pos rfl]; exact .inr (.inr ⟨_, rfl, rfl⟩)
    · rw [decide_eq_false c2, if_neg (by decide)]
      refine .inl ⟨(), rfl, fun y hy => ?_⟩
      rcases List.mem_append.1 hy with hy | hy
      · exact hP y hy
      · rw [List.mem_singleton] at hy; subst hy; omega)
  rcases hloop with ⟨s, e, hn | hn⟩ | ⟨r, e, rfl⟩
  · rw [e]; exact ⟨true, rfl, fun _ => ⟨by omega, hn⟩⟩
  · exact hn.elim
  · rw [e]; exact ⟨false, rfl, fun h => by cases h⟩
theorem AO (t : api_Topo) (x : Pk) : ∃ r, iD t x = some r := by
  unfold iD
  have h1 : ∃ r, ic t ⟨x.a0, x.a1⟩ = some r := by
    unfold ic
    rw [kI _ (fx ⟨x.a0, x.a1⟩) t.Links (fun j y hj => by
      simp only [n6, bW, hj, Option.bind_some, fx]
      by_cases c : (y.a0 == (api_Port.mk x.a0 x.a1)) = true
      · simp only [c, if_true]; rfl
      · simp only [c, if_false]
        by_cases c2 : (y.a1 == (api_Port.mk x.a0 x.a1)) = true
        · simp only [c2, if_true]; rfl
        · simp only [c2, if_false]; rfl)]
    cases d5 (fx ⟨x.a0, x.a1⟩) t.Links <;> exact ⟨_, rfl⟩
  have h2 : ∃ r, kO t ⟨x.a0, x.a1⟩ = some r := by
    unfold kO
    rw [kI _ (fun y => if y == (api_Port.mk x.a0 x.a1) then some true else none) t.Hosts (fun j y hj => by
      simp only [qz, bW, hj, Option.bind_some]
      by_cases c : (y == (api_Port.mk x.a0 x.a1)) = true
      · simp only [c, if_true]; rfl
      · simp only [c, if_false]; rfl)]
    cases d5 (fun y => if y == (api_Port.mk x.a0 x.a1) then some true else none) t.Hosts <;> exact ⟨_, rfl⟩
  obtain ⟨r, e1⟩ := h1
  obtain ⟨r', e2⟩ := h2
  rw [e1]
  simp only [Option.bind_some]
  cases r.2 with
  | true => exact ⟨_, rfl⟩
  | false =>
    simp only [Bool.false_eq_true, if_false, e2, Option.bind_some]
    cases r' <;> exact ⟨_, rfl⟩
theorem AP (t : api_Topo) (wh : Wh t) {l : List api_Want} {p : ak} (ho : ik t l p) {w : api_Want} (hw : w ∈ l) (hb : w.Ban = false) {f d : Nat} {way : List Int} (m : dE t w f d way) {pt : api_Port} (hp : t.Hosts[f]? = some pt) {x : Pk} (hx : x.a0 = pt.Sw) (hft : dp x (cr ((f : Int) + 1) ((d : Int) + 1) w.Match) = true) : ¬ oF t l x := by
  obtain ⟨hs, bs, hI, _⟩ := ho
  obtain ⟨k, D, qd, a, b, wi, pp, hpp, hpl⟩ := m.way t wh
  rw [hp] at hpp; cases hpp
  have hlen := wi.len
  obtain ⟨h, hh, hop⟩ := hI.hi w hw hb f d way m 0 (by omega)
  obtain ⟨u, u1, u2⟩ := hop.at_
  obtain ⟨l', hway, _⟩ := wi.wr
  rw [hway] at u1
  have hua : u = a := by simp at u1; omega
  subst hua
  have hsw : x.a0 = h.sw := by
    rw [hx]
    rcases kY t.Switches pt.Sw with ⟨i, h1, h2⟩ | ⟨h1, _⟩
    · have : i = u := by omega
      subst this
      rw [u2] at h2; exact (bJ h2).symm
    · omega
  intro hn
  have := hn w hw hb f d way 0 h m hop
  have ht : dR x h = true := by
    unfold dR dp
    rw [List.all_cons]
    have : x.get 0 = some x.a0 := by cases x; rfl
    simp only [this, hsw, beq_self_eq_true, Bool.true_and]
    rw [hop.src, hop.dst, hop.m]
    exact hft
  rw [ht] at this; cases this
theorem oI {q : Pk} {s d : Int} {m : List api_Pair} (h : dp q (cr s d m) = true) : q.a2 = s ∧ q.a3 = d := by
  have h2 := iJ h (p := (2, s)) (by simp [cr])
  have h3 := iJ h (p := (3, d)) (by simp [cr])
  have e2 : q.get 2 = some q.a2 := by cases q; rfl
  have e3 : q.get 3 = some q.a3 := by cases q; rfl
  simp only [e2, e3] at h2 h3
  exact ⟨bJ h2, bJ h3⟩
theorem law_RouteComes (t : api_Topo) (l : List api_Want) (q : Pk) (h2 : 0 ≤ q.a2 ∧ q.a2 < 65536) (h3 : 0 ≤ q.a3 ∧ q.a3 < 65536) : law30_RouteComes t l q = some true := by
  unfold law30_RouteComes
  simp only [AH, Option.bind_some, Bool.not_true, Bool.false_eq_true, if_false]
  by_cases c0 : (t.Hosts.length : Int) > 12
  · rw [decide_eq_true c0]; rfl
  rw [decide_eq_false c0]
  obtain ⟨b, eb, hb⟩ := AN l
  simp only [Bool.false_eq_true, if_false, eb, Option.bind_some]
  cases b with
  | false => rfl
  | true =>
  simp only [Bool.not_true, Bool.false_eq_true, if_false]
  obtain ⟨hl30, hm8⟩ := hb rfl
  obtain ⟨r, er, hr, _⟩ := Az t (Nat.le_refl 8) hm8 (by omega)
  rw [er]
  simp only [Option.bind_some]
  by_cases c1 : (r.2 != 0) = true
  · rw [if_pos c1]
  rw [if_neg c1]
  obtain ⟨wh, ho⟩ := hr (by simpa using c1)
  have hmay := ik.may t ho
  have hmf : ∀ w ∈ l, ∀ p ∈ w.Match, 0 ≤ p.F ∧ p.F < 8 := fun w hw p hp => by
    obtain ⟨f, d, way, m⟩ := hmay w hw
    have := m.ok p hp; omega
  have hloop := nt (n7 t l q r) (fun _ s => ∃ sw pt, s = ck q sw pt) (fun _ => False) (fun _ => False) t.Hosts.length 0 q ⟨q.a0, q.a1, by cases q; rfl⟩ (fun i s _ hi ⟨sw, pt, hs⟩ => by
    have hi : i < t.Hosts.length := by omega
    left
    subst hs
    have gp : t.Hosts[i]? = some t.Hosts[i] := bM hi
    generalize t.Hosts[i] = p at gp
    refine ⟨ck q p.Sw p.Pt, ?_, p.Sw, p.Pt, rfl⟩
    simp only [n7, bW, gp, Option.bind_some]
    rw [show A8.mk p.Sw p.Pt (ck q sw pt).a2 (ck q sw pt).a3 (ck q sw pt).a4 (ck q sw pt).a5 (ck q sw pt).a6 (ck q sw pt).a7 = ck q p.Sw p.Pt from rfl]
    obtain ⟨to, ok, ec, ok1, ok2⟩ := AL t hmf (i : Int) (q := ck q p.Sw p.Pt) h2 h3
    rcases AG t wh ho (ck q p.Sw p.Pt) with ⟨hc, ew⟩ | ⟨hbn, w, w1, w2, f, d, way, k, D, qd, a, bb, m, wi, hft, W, ew, hC⟩
    · have hok : ok = false := by
        cases hk : ok with
        | false => rfl
        | true =>
          exfalso
          obtain ⟨⟨w, v1, v2, v3, v4⟩, v5⟩ := ok1 hk
          unfold fz at v3
          rw [Bool.and_eq_true, decide_eq_true_eq] at v3
          obtain ⟨f, d, way, m⟩ := hmay w v1
          rw [m.hf, m.hd] at v3
          have hfi : f = i := by omega
          subst hfi
          rcases hc with hc | hc
          · unfold fP at hc
            obtain ⟨wb, b1, b2⟩ := List.any_eq_true.1 hc
            rw [Bool.and_eq_true] at b2
            have := v5 wb b1 b2.1
            have s1 := (oI b2.2).1
            have s2 := (oI v3.2).1
            unfold fz at this
            rw [b2.2, Bool.and_true] at this
            simp at this
            omega
          · exact AP t wh ho v1 v2 m gp (x := ck q p.Sw p.Pt) rfl v3.2 hc
      subst hok
      obtain ⟨nx, en⟩ := AO t (ck q p.Sw p.Pt)
      rw [ew]
      simp only [Option.bind_some]
      rw [if_neg (by simp), ec]
      simp only [Option.bind_some]
      rw [show aW [[ck q p.Sw p.Pt]] 0 = some [ck q p.Sw p.Pt] from rfl]
      simp only [Option.bind_some]
      rw [show aW [ck q p.Sw p.Pt] (IntKind.i64.wrap ((([ck q p.Sw p.Pt].length : Nat) : Int) - 1)) = some (ck q p.Sw p.Pt) from rfl]
      simp only [Option.bind_some, en]
      rw [show ((((([ck q p.Sw p.Pt].length : Nat) : Int)).tmod 2) == 0) = false from rfl]
      rfl
    · obtain ⟨y, y1, y2, y3⟩ := hC.last
      have en := vA t wh wi.hq y y2 y3
      have hpos := hC.pos
      have hle := hC.le
      have hev := hC.ev
      have hgl : aW W (IntKind.i64.wrap ((W.length : Int) - 1)) = some y := by
        rw [om (by omega) (by omega), show (W.length : Int) - 1 = ((W.length - 1 : Nat) : Int) by omega, bW, ← y1, List.getLast?_eq_getElem?]
      have hcame : ((((W.length : Int).tmod 2) == 0) && ((1 : Int) == 1)) = true := by
        have : (W.length : Int).tmod 2 = 0 := by
          rw [Int.tmod_eq_emod_of_nonneg (by omega)]; omega
        rw [this]; rfl
      rw [ew]
      simp only [Option.bind_some]
      rw [if_neg (by simp), ec]
      simp only [Option.bind_some]
      rw [show aW [W] 0 = some W from rfl]
      simp only [Option.bind_some, hgl, en, hcame]
      have hsd := oI hft
      cases hk : ok with
      | true =>
        obtain ⟨⟨v, v1, v2, v3, v4⟩, _⟩ := ok1 hk
        unfold fz at v3
        rw [Bool.and_eq_true] at v3
        have hd2 := (oI v3.2).2
        have htd : to = (d : Int) := by rw [v4]; omega
        subst htd
        simp only [if_true, Bool.not_true, Bool.false_eq_true, if_false, bW, wi.hq, Option.bind_some, y2, y3, bne_self_eq_false]
      | false =>
        have hne : ¬ (ck q p.Sw p.Pt).a2 = (i : Int) + 1 := by
          intro hei
          have hfi : f = i := by omega
          rcases ok2 hk with ⟨v, v1, v2, v3⟩ | hall
          · unfold fz at v3
            rw [Bool.and_eq_true] at v3
            have : fP l (ck q p.Sw p.Pt) = true := List.any_eq_true.2 ⟨v, v1, by rw [v2, v3.2]; rfl⟩
            rw [this] at hbn; cases hbn
          · have := hall w w1
            unfold fz at this
            rw [m.hf, m.hd, hft] at this
            simp at this
            omega
        have hq2 : IntKind.i64.wrap (ck q sw pt).a2 = (ck q p.Sw p.Pt).a2 := jO (n := q.a2) (by omega) (by omega)
        have : ((ck q p.Sw p.Pt).a2 == (i : Int) + 1) = false := by simpa using hne
        simp only [Bool.false_eq_true, if_false, Bool.not_false, if_true, hq2, this, Option.bind_some])
  rw [Nat.zero_add] at hloop
  rcases hloop with ⟨s, e, _ | h⟩ | ⟨r', e, h⟩
  · have e : bV (n7 t l q r) (bu 0 (t.Hosts.length : Int)) q = some (.done s) := e
    rw [e]; rfl
  · exact h.elim
  · exact h.elim
end Go.AM
end
