import Derived.Test.YtnnkfanmokeiaaaRB4
import Derived.Test.YtnnkfanmokeiaaaRtT
/-  Several texts in one. -/
section
set_option linter.unusedVariables false
set_option linter.unusedSimpArgs false
namespace Go.AM
open Go
section
variable (t : api_Topo)
theorem AJ {p : api_Port} (h : p ∉ dI t.Links) : gQ t p = some (⟨0, 0⟩, false) := by
  unfold gQ
  rw [jT _ (fE p) t.Links (fun j x hj => by
    simp only [n7, bZ, hj, Option.bind_some, fE]
    by_cases c : (x.a0 == p) = true
    · simp only [c, if_true]; rfl
    · simp only [c, if_false]
      by_cases c2 : (x.a1 == p) = true
      · simp only [c2, if_true]; rfl
      · simp only [c2, if_false]; rfl)]
  have : ∀ l : List (A2 api_Port), p ∉ dI l → dP (fE p) l = none := by
    intro l
    induction l with
    | nil => intro _; rfl
    | cons x l ih =>
      intro hp
      simp only [dI, List.flatMap_cons, List.mem_append, List.mem_cons, List.not_mem_nil, or_false, not_or] at hp
      have e0 : (x.a0 == p) = false := by simp only [beq_eq_false_iff_ne]; exact fun e => hp.1.1 e.symm
      have e1 : (x.a1 == p) = false := by simp only [beq_eq_false_iff_ne]; exact fun e => hp.1.2 e.symm
      simp only [dP, fE, e0, e1]
      exact ih hp.2
  rw [this t.Links h]; rfl
theorem AK {p : api_Port} (h : p ∈ t.Hosts) : jZ t p = some true := by
  unfold jZ
  rw [jT _ (fun x => if x == p then some true else none) t.Hosts (fun j x hj => by
    simp only [qy, bZ, hj, Option.bind_some]
    by_cases c : (x == p) = true
    · simp only [c, if_true]; rfl
    · simp only [c, if_false]; rfl)]
  rw [vm, List.any_eq_true.2 ⟨p, h, by simp⟩]; rfl
theorem AL (wh : Wh t) {d : Nat} {q : api_Port} (hq : t.Hosts[d]? = some q) (x : Pk) (h0 : x.a0 = q.Sw) (h1 : x.a1 = q.Pt) : io t x = some (x, 1) := by
  have hm : q ∈ t.Hosts := c9 hq
  have e : api_Port.mk x.a0 x.a1 = q := by rw [h0, h1]
  unfold io
  rw [e, AJ t (fun hp => (List.nodup_append.1 wh.hn).2.2 q hp q hm rfl)]
  simp only [Option.bind_some, Bool.false_eq_true, if_false, AK t hm, if_true]
def b7 (q : Pk) (sw pt : Int) : Pk := ⟨sw, pt, q.a2, q.a3, q.a4, q.a5, q.a6, q.a7⟩
theorem rA (q : Pk) (n : Int) : fj q 1 n = b7 q q.a0 n := by cases q; rfl
theorem vM {q : Pk} (sw pt : Int) {l : List (Int × Int)} (h : ∀ p ∈ l, 2 ≤ p.1 ∧ p.1 < 8) : dQ (b7 q sw pt) l = dQ q l := by
  unfold dQ
  rw [Bool.eq_iff_iff, List.all_eq_true, List.all_eq_true]
  have key : ∀ p ∈ l, (b7 q sw pt).get p.1 = q.get p.1 := fun p hp => by
    have := h p hp
    obtain ⟨f, n⟩ := p
    simp only at this ⊢
    rcases uH (f := f) (by omega) this.2 with e | e | e | e | e | e | e | e
    · omega
    · omega
    all_goals subst e; cases q; rfl
  exact ⟨fun g p hp => by rw [← key p hp]; exact g p hp, fun g p hp => by rw [key p hp]; exact g p hp⟩
theorem vN {w : api_Want} {f d : Nat} {way : List Int} (m : dJ t w f d way) (s e : Int) : ∀ p ∈ cD s e w.Match, 2 ≤ p.1 ∧ p.1 < 8 := by
  intro p hp
  simp only [cD, List.mem_cons, List.mem_map] at hp
  rcases hp with rfl | rfl | ⟨x, hx, rfl⟩
  · exact ⟨by simp, by simp⟩
  · exact ⟨by simp, by simp⟩
  · have := m.ok x hx
    exact ⟨by simp only; omega, by simp only; omega⟩
theorem AN {l : List api_Want} (hl : ∀ w ∈ l, ∃ f d way, dJ t w f d way) (q : Pk) (sw pt : Int) : dW l (b7 q sw pt) = dW l q := by
  unfold dW
  rw [Bool.eq_iff_iff, List.any_eq_true, List.any_eq_true]
  have key : ∀ w ∈ l, dQ (b7 q sw pt) (cD (w.From + 1) (w.To + 1) w.Match) = dQ q (cD (w.From + 1) (w.To + 1) w.Match) := fun w hw => by
    obtain ⟨f, d, way, m⟩ := hl w hw
    exact vM sw pt (vN t m _ _)
  exact ⟨fun ⟨w, h1, h2⟩ => ⟨w, h1, by rw [← key w h1]; exact h2⟩, fun ⟨w, h1, h2⟩ => ⟨w, h1, by rw [key w h1]; exact h2⟩⟩
theorem gK.may {l : List api_Want} {p : aj} (h : gK t l p) : ∀ w ∈ l, ∃ f d way, dJ t w f d way := by
  obtain ⟨hs, bs, hI, _⟩ := h
  exact hI.may
structure vO (q : api_Port) (x : Pk) (n : Nat) (W : List Pk) : Prop where
  ev : W.length % 2 = 0
  pos : 2 ≤ W.length
  le : W.length ≤ 2 * n
  last : ∃ y, W.getLast? = some y ∧ y.a0 = q.Sw ∧ y.a1 = q.Pt
theorem AO (wh : Wh t) {l : List api_Want} {p : aj} (ho : gK t l p) {w : api_Want} (hw : w ∈ l) (hb : w.Ban = false) {f d : Nat} {way : List Int} (m : dJ t w f d way)
    {k : Nat} {D : List Int} {qd : api_Port} {a b : Nat} (wi : kc t f d way k D qd a b) :
    ∀ (r j : Nat), j + r = k → ∀ (F H : Nat) (x : Pk) (u : Nat), r < F → r < H → H ≤ 12 → way[j]? = some (u : Int) → t.Switches[u]? = some x.a0 → dW l x = false → dQ x (cD ((f : Int) + 1) ((d : Int) + 1) w.Match) = true →
      ∃ W, gE F t p [] x (H : Int) = some ([W], 0) ∧ vO qd x (r + 1) W := by
  intro r
  induction r with
  | zero =>
    intro j hj F H x u hF hH hH2 hu hsw hbn hft
    obtain ⟨F, rfl⟩ : ∃ F', F = F' + 1 := ⟨F - 1, by omega⟩
    obtain ⟨l', hway, hW⟩ := wi.wr
    have hlen := wi.len
    obtain ⟨v, g1, _, g3, _⟩ := hW.get wi.da j (by omega)
    rw [← hway, hu] at g1
    have huv : u = v := by have := bK g1; omega
    subst huv
    have hub : u = b := by
      have h1 := wi.ds.2 u _ g3
      rw [show k - j = 0 by omega] at h1
      exact h1.zero.symm
    have hx0 : x.a0 = qd.Sw := by
      rcases mt t.Switches qd.Sw with ⟨i, h1, h2⟩ | ⟨h1, _⟩
      · have := wi.hb
        have : i = u := by omega
        subst this
        rw [hsw] at h2; exact bK h2
      · have := wi.hb; omega
    have hpt : ka t d way j = some qd.Pt := by
      unfold ka
      rw [if_neg (by omega), bZ, wi.hq]; rfl
    have hop : gj t f d w.Match way j ⟨x.a0, (f : Int) + 1, (d : Int) + 1, w.Match, qd.Pt⟩ := ⟨⟨u, hu, hsw⟩, rfl, rfl, rfl, hpt⟩
    have hbq : dV x ⟨x.a0, (f : Int) + 1, (d : Int) + 1, w.Match, qd.Pt⟩ = true := by
      unfold dV dQ
      rw [List.all_cons]
      have : x.get 0 = some x.a0 := by cases x; rfl
      simp only [this, beq_self_eq_true, Bool.true_and]
      exact hft
    have hmk := (iP t wh ho x).2 hbn w hw hb f d way j _ m hop hbq
    rw [rA] at hmk
    have hnx := AL t wh wi.hq (b7 x x.a0 qd.Pt) hx0 rfl
    refine ⟨[x, b7 x x.a0 qd.Pt], ?_, ⟨by simp, by simp, by simp, _, rfl, hx0, rfl⟩⟩
    show gR (gE F) t p [] x (H : Int) = _
    unfold gR
    rw [hmk]
    simp only [Option.bind_some]
    rw [if_neg (by decide), if_neg (by simp)]
    rw [show bx 0 (([b7 x x.a0 qd.Pt].length : Nat) : Int) = [0] from rfl]
    simp only [bS, n8]
    rw [show bd [b7 x x.a0 qd.Pt] 0 = some (b7 x x.a0 qd.Pt) from rfl]
    simp only [Option.bind_some, hnx]
    rw [show ((1 : Int) != 0) = true from rfl]
    simp only [Bool.true_or, if_true]
    rw [dM (by simp)]
    simp only [Option.bind_some, List.nil_append]
    rw [if_neg (by simp)]
    rfl
  | succ r ih =>
    intro j hj F H x u hF hH hH2 hu hsw hbn hft
    obtain ⟨F, rfl⟩ : ∃ F', F = F' + 1 := ⟨F - 1, by omega⟩
    obtain ⟨l', hway, hW⟩ := wi.wr
    have hlen := wi.len
    obtain ⟨v, g1, _, g3, g4⟩ := hW.get wi.da j (by omega)
    rw [← hway, hu] at g1
    have huv : u = v := by have := bK g1; omega
    subst huv
    obtain ⟨v, v1, v2⟩ := g4 (by omega)
    rw [← hway] at v1
    have hv := (gI v2).2
    have hsv : t.Switches[v]? = some t.Switches[v] := bO hv
    generalize t.Switches[v] = vb at hsv
    obtain ⟨pp, p1, p2⟩ := vy wh.wf hsw hsv
    have p3 : ∃ o : api_Port, gQ t (api_Port.mk x.a0 pp.1) = some (o, true) ∧ o.Sw = vb := by
      rcases p2 with ⟨h, _⟩ | ⟨_, _, h⟩
      · exact (h v2).elim
      · exact h
    obtain ⟨o, o1, o2⟩ := p3
    have hpt : ka t d way j = some pp.1 := by
      unfold ka
      rw [if_pos (by omega), bZ, hu, show (j : Int) + 1 = ((j + 1 : Nat) : Int) by omega, bZ, v1]
      simp only [Option.bind_some, p1, Option.map_some]
    have hop : gj t f d w.Match way j ⟨x.a0, (f : Int) + 1, (d : Int) + 1, w.Match, pp.1⟩ := ⟨⟨u, hu, hsw⟩, rfl, rfl, rfl, hpt⟩
    have hbq : dV x ⟨x.a0, (f : Int) + 1, (d : Int) + 1, w.Match, pp.1⟩ = true := by
      unfold dV dQ
      rw [List.all_cons]
      have : x.get 0 = some x.a0 := by cases x; rfl
      simp only [this, beq_self_eq_true, Bool.true_and]
      exact hft
    have hmk := (iP t wh ho x).2 hbn w hw hb f d way j _ m hop hbq
    rw [rA] at hmk
    have hnx : io t (b7 x x.a0 pp.1) = some (b7 x o.Sw o.Pt, 0) := by
      unfold io
      rw [show api_Port.mk (b7 x x.a0 pp.1).a0 (b7 x x.a0 pp.1).a1 = api_Port.mk x.a0 pp.1 from rfl, o1]; rfl
    obtain ⟨W, e, hC⟩ := ih (j + 1) (by omega) F (H - 1) (b7 x o.Sw o.Pt) v (by omega) (by omega) (by omega) v1 (by rw [hsv]; exact congrArg some o2.symm) (by rw [AN t (gK.may t ho)]; exact hbn) (by rw [vM _ _ (vN t m _ _)]; exact hft)
    have hw1 : IntKind.i64.wrap ((H : Int) - 1) = ((H - 1 : Nat) : Int) := by rw [ow (by omega) (by omega)]; omega
    refine ⟨[x, b7 x x.a0 pp.1] ++ W, ?_, ⟨by have := hC.ev; simp; omega, by simp, by have := hC.le; simp; omega, ?_⟩⟩
    · show gR (gE F) t p [] x (H : Int) = _
      unfold gR
      rw [hmk]
      simp only [Option.bind_some]
      rw [if_neg (by decide), if_neg (by simp)]
      rw [show bx 0 (([b7 x x.a0 pp.1].length : Nat) : Int) = [0] from rfl]
      simp only [bS, n8]
      rw [show bd [b7 x x.a0 pp.1] 0 = some (b7 x x.a0 pp.1) from rfl]
      simp only [Option.bind_some, hnx]
      have c1 : (((0 : Int) != 0) || ((H : Int) == 1)) = false := by simp; omega
      rw [c1, hw1, e]
      simp only [Bool.false_eq_true, if_false, Option.bind_some, bne_self_eq_false]
      rw [show bx 0 (([W].length : Nat) : Int) = [0] from rfl]
      simp only [cW, uf]
      rw [show bd [W] 0 = some W from rfl]
      simp only [Option.bind_some]
      rw [dM (by have := hC.le; simp; omega)]
      simp only [Option.bind_some]
      rw [dM (by simp)]
      simp only [Option.bind_some, List.nil_append]
      rw [if_neg (by simp)]
      rfl
    · obtain ⟨y, y1, y2⟩ := hC.last
      refine ⟨y, ?_, y2⟩
      have : W ≠ [] := by intro e; subst e; simp at y1
      rw [List.getLast?_append]
      simp [y1]
theorem vP {p : aj} {x : Pk} (h : fi p [] x = some ([], 0)) (F : Nat) (H : Int) : gE (F + 1) t p [] x H = some ([[x]], 0) := by
  show gR (gE F) t p [] x H = _
  unfold gR
  rw [h]; rfl
theorem vQ (wh : Wh t) {l : List api_Want} {p : aj} (ho : gK t l p) (x : Pk) :
    ((dW l x = true ∨ mx t l x) ∧ ip t p [] x 12 = some ([[x]], 0)) ∨
    (dW l x = false ∧ ∃ w ∈ l, w.Ban = false ∧ ∃ f d way k D qd a b, dJ t w f d way ∧ kc t f d way k D qd a b ∧ dQ x (cD ((f : Int) + 1) ((d : Int) + 1) w.Match) = true ∧ ∃ W, ip t p [] x 12 = some ([W], 0) ∧ vO qd x 12 W) := by
  have hFU : ∃ F, cX = F + 1 ∧ 13 ≤ F := by
    obtain ⟨m, hm⟩ := lT 20 (by omega)
    exact ⟨m + 19, by omega, by omega⟩
  obtain ⟨F, hF, hF2⟩ := hFU
  unfold ip
  by_cases hb : dW l x = true
  · exact .inl ⟨.inl hb, by rw [hF]; exact vP t ((iP t wh ho x).1 (.inl hb)) F 12⟩
  have hb : dW l x = false := by simpa using hb
  by_cases hn : mx t l x
  · exact .inl ⟨.inr hn, by rw [hF]; exact vP t ((iP t wh ho x).1 (.inr hn)) F 12⟩
  · right
    refine ⟨hb, ?_⟩
    have : ∃ w ∈ l, w.Ban = false ∧ ∃ f d way j h, dJ t w f d way ∧ gj t f d w.Match way j h ∧ dV x h = true := by
      apply Classical.byContradiction
      intro hc
      refine hn fun w w1 w2 f d way j h m hop => ?_
      cases hq : dV x h with
      | false => rfl
      | true => exact (hc ⟨w, w1, w2, f, d, way, j, h, m, hop, hq⟩).elim
    obtain ⟨w, w1, w2, f, d, way, j, h, m, hop, hq⟩ := this
    obtain ⟨k, D, qd, a, b, wi, _⟩ := m.way t wh
    obtain ⟨u, u1, u2⟩ := hop.at_
    have h0 := iO hq (p := (0, h.sw)) (by simp)
    have hx0 : x.a0 = h.sw := by
      have : x.get 0 = some x.a0 := by cases x; rfl
      simp only at h0
      rw [this] at h0; exact bK h0
    have hft : dQ x (cD ((f : Int) + 1) ((d : Int) + 1) w.Match) = true := by
      have := hq
      unfold dV dQ at this
      rw [List.all_cons, Bool.and_eq_true] at this
      rw [← hop.src, ← hop.dst, ← hop.m]
      exact this.2
    have hlen := wi.len
    have hj := (List.getElem?_eq_some_iff.1 u1).1
    have wn := wh.wf.sw
    have kl := wi.kl
    obtain ⟨W, e, hC⟩ := AO t wh ho w1 w2 m wi (k - j) j (by omega) cX 12 x u (by omega) (by omega) (by omega) u1 (by rw [u2, hx0]) hb hft
    exact ⟨w, w1, w2, f, d, way, k, D, qd, a, b, m, wi, hft, W, e, hC.ev, hC.pos, by have := hC.le; omega, hC.last⟩
end
end Go.AM
end
section
set_option linter.unusedVariables false
namespace Go.AM
open Go
theorem AP : qi = some true := by decide +kernel
end Go.AM
end
section
set_option linter.unusedVariables false
set_option linter.unusedSimpArgs false
namespace Go.AM
open Go
theorem AQ (l : List api_Want) : ∃ b, nL l = some b ∧ (b = true → l.length ≤ 30 ∧ ∀ w ∈ l, w.Match.length ≤ 8) := by
  unfold nL
  by_cases c : (l.length : Int) > 30
  · rw [decide_eq_true c, if_pos rfl]; exact ⟨false, rfl, fun h => by cases h⟩
  rw [decide_eq_false c, if_neg (by decide)]
  have hloop := lV (qj l) l (fun pre _ => ∀ w ∈ pre, w.Match.length ≤ 8) (fun _ => False) (fun r => r = false) () (fun x h => by cases h) (fun i x s hx hP => by
    simp only [qj, bZ, hx, Option.bind_some]
    by_cases c2 : (x.Match.length : Int) > 8
    · rw [decide_eq_true c2, if_pos rfl]; exact .inr (.inr ⟨_, rfl, rfl⟩)
    · rw [decide_eq_false c2, if_neg (by decide)]
      refine .inl ⟨(), rfl, fun y hy => ?_⟩
      rcases List.mem_append.1 hy with hy | hy
      · exact hP y hy
      · rw [List.mem_singleton] at hy; subst hy; omega)
  rcases hloop with ⟨s, e, hn | hn⟩ | ⟨r, e, rfl⟩
  · rw [e]; exact ⟨true, rfl, fun _ => ⟨by omega, hn⟩⟩
  · exact hn.elim
  · rw [e]; exact ⟨false, rfl, fun h => by cases h⟩
theorem AR (t : api_Topo) (x : Pk) : ∃ r, io t x = some r := by
  unfold io
  have h1 : ∃ r, gQ t ⟨x.a0, x.a1⟩ = some r := by
    unfold gQ
    rw [jT _ (fE ⟨x.a0, x.a1⟩) t.Links (fun j y hj => by
      simp only [n7, bZ, hj, Option.bind_some, fE]
      by_cases c : (y.a0 == (api_Port.mk x.a0 x.a1)) = true
      · simp only [c, if_true]; rfl
      · simp only [c, if_false]
        by_cases c2 : (y.a1 == (api_Port.mk x.a0 x.a1)) = true
        · simp only [c2, if_true]; rfl
        · simp only [c2, if_false]; rfl)]
    cases dP (fE ⟨x.a0, x.a1⟩) t.Links <;> exact ⟨_, rfl⟩
  have h2 : ∃ r, jZ t ⟨x.a0, x.a1⟩ = some r := by
    unfold jZ
    rw [jT _ (fun y => if y == (api_Port.mk x.a0 x.a1) then some true else none) t.Hosts (fun j y hj => by
      simp only [qy, bZ, hj, Option.bind_some]
      by_cases c : (y == (api_Port.mk x.a0 x.a1)) = true
      · simp only [c, if_true]; rfl
      · simp only [c, if_false]; rfl)]
    cases dP (fun y => if y == (api_Port.mk x.a0 x.a1) then some true else none) t.Hosts <;> exact ⟨_, rfl⟩
  obtain ⟨r, e1⟩ := h1
  obtain ⟨r', e2⟩ := h2
  rw [e1]
  simp only [Option.bind_some]
  cases r.2 with
  | true => exact ⟨_, rfl⟩
  | false =>
    simp only [Bool.false_eq_true, if_false, e2, Option.bind_some]
    cases r' <;> exact ⟨_, rfl⟩
theorem AS {q : Pk} {s d : Int} {m : List api_Pair} (h : dQ q (cD s d m) = true) : q.a2 = s ∧ q.a3 = d := by
  have h2 := iO h (p := (2, s)) (by simp [cD])
  have h3 := iO h (p := (3, d)) (by simp [cD])
  have e2 : q.get 2 = some q.a2 := by cases q; rfl
  have e3 : q.get 3 = some q.a3 := by cases q; rfl
  simp only [e2, e3] at h2 h3
  exact ⟨bK h2, bK h3⟩
end Go.AM
end
section
set_option linter.unusedVariables false
set_option linter.unusedSimpArgs false
namespace Go.AM
open Go
theorem AT (l : List (List Pk)) : oa l l = some true := by
  unfold oa
  rw [if_neg (by simp)]
  rw [jT _ (fun _ => none) l (fun j x hj => by
    simp only [ug, bZ, hj, Option.bind_some, zX]
    simp [gD])]
  have : ∀ l : List (List Pk), dP (fun _ => (none : Option Bool)) l = none := fun l => by
    induction l with
    | nil => rfl
    | cons x l ih => simpa [dP] using ih
  rw [this]; rfl
section
variable (t : api_Topo)
theorem AU (x : Pk) (sw pt : Int) : ∃ sw' pt' c, io t (b7 x sw pt) = some (b7 x sw' pt', c) := by
  obtain ⟨r, hr⟩ := AR t (b7 x sw pt)
  unfold io at hr ⊢
  cases h1 : gQ t ⟨(b7 x sw pt).a0, (b7 x sw pt).a1⟩ with
  | none => rw [h1] at hr; cases hr
  | some o =>
    rw [h1] at hr
    simp only [Option.bind_some] at hr ⊢
    cases h2 : o.2 with
    | true => exact ⟨o.1.Sw, o.1.Pt, 0, rfl⟩
    | false =>
      rw [h2] at hr
      simp only [Bool.false_eq_true, if_false] at hr ⊢
      cases h3 : jZ t ⟨(b7 x sw pt).a0, (b7 x sw pt).a1⟩ with
      | none => rw [h3] at hr; cases hr
      | some b => cases b <;> exact ⟨sw, pt, _, rfl⟩
theorem AV {p r : aj} {x : Pk} (h : ∀ sw pt, fi p [] (b7 x sw pt) = fi r [] (b7 x sw pt) ∧ (fi p [] (b7 x sw pt) = some ([], 0) ∨ ∃ n, fi p [] (b7 x sw pt) = some ([b7 x sw n], 0))) :
    ∀ (F : Nat) (H sw pt : Int), gE F t p [] (b7 x sw pt) H = gE F t r [] (b7 x sw pt) H := by
  intro F
  induction F with
  | zero => intro H sw pt; rfl
  | succ F ih =>
    intro H sw pt
    show gR (gE F) t p [] _ H = gR (gE F) t r [] _ H
    obtain ⟨h1, h2⟩ := h sw pt
    unfold gR
    rw [← h1]
    rcases h2 with h2 | ⟨n, h2⟩
    · rw [h2]; rfl
    · rw [h2]
      simp only [Option.bind_some]
      rw [if_neg (by decide), if_neg (by simp), if_neg (by decide), if_neg (by simp)]
      rw [show bx 0 (([b7 x sw n].length : Nat) : Int) = [0] from rfl]
      obtain ⟨sw', pt', c, hn⟩ := AU t x sw n
      simp only [bS, n8]
      rw [show bd [b7 x sw n] 0 = some (b7 x sw n) from rfl]
      simp only [Option.bind_some, hn, ih]
theorem AW (wh : Wh t) {l : List api_Want} {p : aj} (ho : gK t l p) (x : Pk) : ((dW l x = true ∨ mx t l x) ∧ fi p [] x = some ([], 0)) ∨
    (dW l x = false ∧ ∃ w ∈ l, w.Ban = false ∧ ∃ f d way j h, dJ t w f d way ∧ gj t f d w.Match way j h ∧ dV x h = true ∧ fi p [] x = some ([fj x 1 h.pt], 0)) := by
  by_cases hb : dW l x = true
  · exact .inl ⟨.inl hb, (iP t wh ho x).1 (.inl hb)⟩
  have hb : dW l x = false := by simpa using hb
  by_cases hn : mx t l x
  · exact .inl ⟨.inr hn, (iP t wh ho x).1 (.inr hn)⟩
  · right
    refine ⟨hb, ?_⟩
    apply Classical.byContradiction
    intro hc
    refine hn fun w w1 w2 f d way j h m hop => ?_
    cases hq : dV x h with
    | false => rfl
    | true => exact (hc ⟨w, w1, w2, f, d, way, j, h, m, hop, hq, (iP t wh ho x).2 hb w w1 w2 f d way j h m hop hq⟩).elim
theorem AY (wh : Wh t) {l : List api_Want} {b : api_Want} {p r : aj} (ho : gK t l p) (hr : gK t (l ++ [b]) r) (hb : b.Ban = true) {x : Pk} (hx : ∀ sw pt, dQ (b7 x sw pt) (cD (b.From + 1) (b.To + 1) b.Match) = false) (sw pt : Int) :
    fi p [] (b7 x sw pt) = fi r [] (b7 x sw pt) ∧ (fi p [] (b7 x sw pt) = some ([], 0) ∨ ∃ n, fi p [] (b7 x sw pt) = some ([b7 x sw n], 0)) := by
  have hbb : dW (l ++ [b]) (b7 x sw pt) = dW l (b7 x sw pt) := by
    unfold dW
    rw [List.any_append]
    simp [hx sw pt]
  rcases AW t wh ho (b7 x sw pt) with ⟨hc, e⟩ | ⟨hc, w, w1, w2, f, d, way, j, h, m, hop, hq, e⟩
  · refine ⟨?_, .inl e⟩
    rw [e]
    refine ((iP t wh hr (b7 x sw pt)).1 ?_).symm
    rcases hc with hc | hc
    · exact .inl (by rw [hbb]; exact hc)
    · refine .inr fun w w1 w2 f d way j h m hop => ?_
      rcases List.mem_append.1 w1 with w1 | w1
      · exact hc w w1 w2 f d way j h m hop
      · rw [List.mem_singleton] at w1; subst w1; rw [hb] at w2; cases w2
  · refine ⟨?_, .inr ⟨h.pt, by rw [e, rA]; rfl⟩⟩
    rw [e]
    exact ((iP t wh hr (b7 x sw pt)).2 (by rw [hbb]; exact hc) w (by simp [w1]) w2 f d way j h m hop hq).symm
end
theorem law_RouteBans (t : api_Topo) (l : List api_Want) (s : A2 Int) (h0 : 0 ≤ s.a0 ∧ s.a0 ≤ 10000000) (h1 : 0 ≤ s.a1 ∧ s.a1 ≤ 10000000) : law30_RouteBans t l s = some true := by
  unfold law30_RouteBans
  simp only [AP, Option.bind_some, Bool.not_true, Bool.false_eq_true, if_false]
  by_cases c0 : (t.Hosts.length : Int) < 2
  · rw [decide_eq_true c0]; rfl
  rw [decide_eq_false c0]
  simp only [Bool.false_eq_true, if_false]
  by_cases c1 : (t.Hosts.length : Int) > 12
  · rw [decide_eq_true c1]; rfl
  rw [decide_eq_false c1]
  obtain ⟨b, eb, hb⟩ := AQ l
  simp only [Bool.false_eq_true, if_false, eb, Option.bind_some]
  cases b with
  | false => rfl
  | true =>
  simp only [Bool.not_true, Bool.false_eq_true, if_false]
  obtain ⟨hl30, hm8⟩ := hb rfl
  have hn : 0 < t.Hosts.length := by omega
  have rem : ∀ {a : Int}, 0 ≤ a ∧ a ≤ 10000000 → ∃ q : Nat, kH (IntKind.i64.wrap a) (t.Hosts.length : Int) = some (q : Int) ∧ q < t.Hosts.length := by
    intro a ha
    obtain ⟨n, hn'⟩ : ∃ n : Nat, a = (n : Int) := Int.eq_ofNat_of_zero_le ha.1
    rw [ow ha.1 ha.2, hn']
    refine ⟨n % t.Hosts.length, ?_, Nat.mod_lt _ hn⟩
    unfold kH
    rw [if_neg (by omega)]
    congr 1
  obtain ⟨u, eu, hu⟩ := rem h0
  obtain ⟨v, ev, hv⟩ := rem h1
  rw [eu, ev]
  obtain ⟨r, er, hr, _⟩ := vJ t (Nat.le_refl 8) hm8 (by omega)
  have hm8' : ∀ w ∈ l ++ [api_Want.mk (u : Int) (v : Int) [] true], w.Match.length ≤ 8 := fun w hw => by
    rcases List.mem_append.1 hw with hw | hw
    · exact hm8 w hw
    · rw [List.mem_singleton] at hw; subst hw; simp
  obtain ⟨r', er', hr', _⟩ := vJ t (Nat.le_refl 8) hm8' (by simp; omega)
  simp only [Option.bind_some, er]
  rw [dM (by simp; omega)]
  simp only [Option.bind_some, List.nil_append]
  rw [dM (by simp; omega)]
  simp only [Option.bind_some, er']
  by_cases c2 : ((r.2 != 0) || (r'.2 != 0)) = true
  · rw [if_pos c2]
  rw [if_neg c2]
  simp only [Bool.or_eq_true, bne_iff_ne, ne_eq, not_or, Classical.not_not] at c2
  obtain ⟨wh, ho⟩ := hr c2.1
  obtain ⟨_, ho'⟩ := hr' c2.2
  have inner : ∀ i : Nat, i < t.Hosts.length → mg t (u : Int) (v : Int) r r' (i : Int) () = some (.next ()) := by
    intro i hi
    unfold mg
    have gp : t.Hosts[i]? = some t.Hosts[i] := bO hi
    generalize t.Hosts[i] = p at gp
    have hloop := lU (ob t (u : Int) (v : Int) r r' (i : Int)) (fun _ _ => True) (fun _ => False) (fun _ => False) t.Hosts.length 0 () trivial (fun k s _ hk _ => by
      have hk : k < t.Hosts.length := by omega
      left
      refine ⟨(), ?_, trivial⟩
      have w1 : IntKind.u16.wrap ((i : Int) + 1) = (i : Int) + 1 := by rw [pY]; omega
      have w2 : IntKind.u16.wrap ((k : Int) + 1) = (k : Int) + 1 := by rw [pY]; omega
      simp only [ob, bZ, gp, Option.bind_some, w1, w2]
      generalize hx : A8.mk p.Sw p.Pt ((i : Int) + 1) ((k : Int) + 1) 0 0 0 0 = x
      have hxat : x = b7 x p.Sw p.Pt := by rw [← hx]; rfl
      have one : ∀ {l : List api_Want} {p : aj}, gK t l p → ∃ W, ip t p [] x 12 = some ([W], 0) := by
        intro l p ho
        rcases vQ t wh ho x with ⟨_, e⟩ | ⟨_, _, _, _, _, _, _, _, _, _, _, _, _, _, _, W, e, _⟩
        · exact ⟨_, e⟩
        · exact ⟨_, e⟩
      by_cases cb : i = u ∧ k = v
      · have hban : dW (l ++ [api_Want.mk (u : Int) (v : Int) [] true]) x = true := by
          unfold dW
          rw [List.any_append]
          have : dQ x (cD ((u : Int) + 1) ((v : Int) + 1) []) = true := by
            rw [← hx, ← cb.1, ← cb.2]
            unfold dQ cD
            simp [A8.get, A8.l, bd]
          simp [this]
        obtain ⟨W, eW⟩ := one ho
        have e2 : ip t r'.1 [] x 12 = some ([[x]], 0) := by
          rcases vQ t wh ho' x with ⟨_, e⟩ | ⟨hc, _⟩
          · exact e
          · rw [hban] at hc; cases hc
        rw [eW, e2]
        simp only [Option.bind_some]
        rw [if_neg (by decide), if_pos (by rw [cb.1, cb.2]; simp)]
        rfl
      · have hfit : ∀ sw pt, dQ (b7 x sw pt) (cD ((u : Int) + 1) ((v : Int) + 1) []) = false := by
          intro sw pt
          rw [Bool.eq_false_iff]
          intro hc
          have := AS hc
          rw [← hx] at this
          simp only [b7] at this
          omega
        have hsame := AV t (p := r.1) (r := r'.1) (x := x) (fun sw pt => AY t wh ho ho' rfl hfit sw pt) cX 12 p.Sw p.Pt
        rw [← hxat] at hsame
        have hsame : ip t r.1 [] x 12 = ip t r'.1 [] x 12 := hsame
        obtain ⟨W, eW⟩ := one ho
        rw [← hsame, eW]
        simp only [Option.bind_some]
        rw [if_neg (by decide), if_neg (by simp; omega), AT]
        rfl)
    rcases hloop with ⟨s, e, _ | h⟩ | ⟨r', e, h⟩
    · rw [Nat.zero_add] at e
      have e : bS (ob t (u : Int) (v : Int) r _ (i : Int)) (bx 0 (t.Hosts.length : Int)) () = some (.done s) := e
      rw [e]; rfl
    · exact h.elim
    · exact h.elim
  have hloop := lU (mg t (u : Int) (v : Int) r r') (fun _ _ => True) (fun _ => False) (fun _ => False) t.Hosts.length 0 () trivial (fun k s _ hk _ => .inl ⟨(), inner k (by omega), trivial⟩)
  rw [Nat.zero_add] at hloop
  rcases hloop with ⟨s, e, _ | h⟩ | ⟨r2, e, h⟩
  · have e : bS (mg t (u : Int) (v : Int) r r') (bx 0 (t.Hosts.length : Int)) () = some (.done s) := e
    rw [e]; rfl
  · exact h.elim
  · exact h.elim
end Go.AM
end
