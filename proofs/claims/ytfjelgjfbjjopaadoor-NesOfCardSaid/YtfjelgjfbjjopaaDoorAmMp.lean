import Derived.Test.YtfjelgjfbjjopaaDoorAmN7
import Derived.Test.YtfjelgjfbjjopaaDoorAmN6
set_option linter.unusedVariables false
set_option linter.unusedSectionVars false
set_option linter.unusedSimpArgs false
namespace Go.AM
open Go Go.RowKit
variable [Glob]
def eM {κ ν : Type} (ek : κ → D) (ev : ν → D) (m : List (κ × ν)) : List (D × D) := m.map fun p => (ek p.1, ev p.2)
def jL {κ : Type} [DecidableEq κ] (q : MK) (ek : κ → D) : Prop := (∀ a, q.has (ek a) = true) ∧ ∀ a b, q.eq (ek a) (ek b) = some (decide (a = b))
theorem wP (k : IntKind) (a b : Int) : dX .int (D.int k a) (D.int k b) = some (decide (a = b)) := by
  simp only [dX, if_true, Option.some.injEq]
  rw [Bool.eq_iff_iff]; simp
theorem wQ (a b : ByteArray) : dX .str (D.str a) (D.str b) = some (decide (a = b)) := by
  simp only [dX, Option.some.injEq]
  rw [Bool.eq_iff_iff]; simp [qI]
theorem wR (a b : Bool) : dX .bool (D.bool a) (D.bool b) = some (decide (a = b)) := by
  simp only [dX, Option.some.injEq]
  rw [Bool.eq_iff_iff]; simp
theorem jM (k : IntKind) : jL (.one .int) (D.int k) := ⟨fun _ => rfl, fun a b => by
  simp only [MK.eq, dX, if_true, Option.some.injEq]
  rw [Bool.eq_iff_iff]; simp⟩
theorem wS : jL (.one .str) D.str := ⟨fun _ => rfl, fun a b => by
  simp only [MK.eq, dX, Option.some.injEq]
  rw [Bool.eq_iff_iff]; simp [qI]⟩
section
variable {κ ν : Type} [DecidableEq κ] {q : MK} {ek : κ → D} {ev : ν → D}
theorem pI (h : jL q ek) (k : κ) : ∀ (m : List (κ × ν)) (i : Nat), (∃ j v, fO q (ek k) (eM ek ev m) i = some (some (i + j, ev v)) ∧ mget m k = some v ∧ ∀ u, (eM ek ev m).set j (ek k, ev u) = eM ek ev (dB m k u)) ∨
    (fO q (ek k) (eM ek ev m) i = some none ∧ mget m k = none ∧ ∀ u, eM ek ev m ++ [(ek k, ev u)] = eM ek ev (dB m k u))
  | [], i => .inr ⟨rfl, rfl, fun u => rfl⟩
  | p :: m, i => by
    simp only [eM, List.map_cons, fO, h.2]
    by_cases c : k = p.1
    · left
      refine ⟨0, p.2, ?_, by simp [mget, c], fun u => ?_⟩
      · rw [decide_eq_true c]; rfl
      · simp [dB, c]
    · rw [decide_eq_false c]
      rcases pI h k m (i + 1) with ⟨j, v, h1, h2, h3⟩ | ⟨h1, h2, h3⟩
      · refine .inl ⟨j + 1, v, ?_, by simp [mget, c, h2], fun u => ?_⟩
        · simp only [eM] at h1
          rw [show i + (j + 1) = i + 1 + j by omega]
          exact h1
        · have := h3 u
          simp only [eM] at this
          simp [dB, c, this]
      · refine .inr ⟨h1, by simp [mget, c, h2], fun u => ?_⟩
        have := h3 u
        simp only [eM] at this
        simp [dB, c, ← this]
variable {T : Nat → V} {σ : aV} {n : Nat} {x i u : AX} {id : Nat} {m : List (κ × ν)} {k : κ}
theorem lR (h : jL q ek) (zv : ν) {z : D} (hx : aW T x = .mref id) (hi : aW T i = .d (ek k)) (hid : σ id = some (.mp (eM ek ev m))) (hz : z = ev zv) :
    aX (.mget q z true x i) (aW T) σ n = some (.d (.tup [ev ((mget m k).getD zv), .bool (mget m k).isSome]), σ, n) := by
  subst hz
  simp only [aX, hx, hi, hid, h.1 k]
  rcases pI (ev := ev) h k m 0 with ⟨j, v, h1, h2, h3⟩ | ⟨h1, h2, h3⟩
  · simp [h1, h2]
  · simp [h1, h2]
theorem wT (h : jL q ek) (zv : ν) {z : D} (hx : aW T x = .mref id) (hi : aW T i = .d (ek k)) (hid : σ id = some (.mp (eM ek ev m))) (hz : z = ev zv) :
    aX (.mget q z false x i) (aW T) σ n = some (.d (ev ((mget m k).getD zv)), σ, n) := by
  subst hz
  simp only [aX, hx, hi, hid, h.1 k]
  rcases pI (ev := ev) h k m 0 with ⟨j, v, h1, h2, h3⟩ | ⟨h1, h2, h3⟩
  · simp [h1, h2]
  · simp [h1, h2]
theorem lS (h : jL q ek) {w : ν} (hx : aW T x = .mref id) (hi : aW T i = .d (ek k)) (hu : aW T u = .d (ev w)) (hid : σ id = some (.mp (eM ek ev m))) :
    aX (.mset q x i u) (aW T) σ n = some (V.undef, aq σ id (some (.mp (eM ek ev (dB m k w)))), n) := by
  simp only [aX, hx, hi, hu, hid, h.1 k]
  rcases pI (ev := ev) h k m 0 with ⟨j, v, h1, h2, h3⟩ | ⟨h1, h2, h3⟩
  · simp only [h1, Nat.zero_add, h3 w]
  · simp only [h1, h3 w]
end
theorem nv {P : Program} {T : Nat → V} {σ σ' : aV} {n n' : Nat} {dst : Option Nat} {l : List ce} {K : S → Prop} {f : Nat} {x : AX} {xs : List AX} {caps : List V} {v : V} (hx : aW T x = .func f caps) (hp : e8 P f (xs.map (aW T) ++ caps) σ n v σ' n') (hn : n ≤ n')
    (k : bp P l ⟨bR T dst v, σ', n'⟩ K) : bp P (⟨dst, .callv true x xs, none⟩ :: l) ⟨T, σ, n⟩ K :=
  ⟨f, caps, v, σ', n', .inl hx, hp, hn, k⟩
theorem VN.funcs {ρ : Nat → Nat} {n0 f : Nat} {vs us : List V} (h : aE ρ n0 vs us) : VN ρ n0 (.func f vs) (.func f us) := .func f vs us h.all.1 h.all.2
theorem cJ.frz {P : Program} {f : Nat} {vals : List V} {σ : aV} {n n' id : Nat} {v : V} {k : Option Nat} {els : List D} (h : cJ P f vals σ n v (ai [(id, .lst true k els)]) n') : cJ P f vals σ n v (ai [(id, .lst false k els)]) n' := by
  refine ⟨h.1, fun A μ w vs hs hfr hlen hrel => (h.2 A μ w vs hs hfr hlen hrel).mono fun e w' ⟨cv, μ', h1, h2, h3, h4, h5⟩ => ?_⟩
  have key : ∀ j b, ai [(id, bv.lst false k els)] j = some b → j = id ∧ b = .lst false k els := by
    intro j b hb
    simp only [ai] at hb
    split at hb
    · rename_i e; cases hb; exact ⟨e, rfl⟩
    · cases hb
  have hid : ai [(id, bv.lst true k els)] id = some (.lst true k els) := by simp [ai]
  have hown : ∀ b o, dW μ' (ai [(id, bv.lst false k els)]) b o → dW μ' (ai [(id, bv.lst true k els)]) b o := by
    rintro b o ⟨j, bl, g1, g2⟩
    obtain ⟨rfl, rfl⟩ := key j bl g1
    refine ⟨j, _, hid, ?_⟩
    cases hm : μ' j with
    | none => rw [hm] at g2; exact g2.elim
    | some p => cases p with
      | nil => rw [hm] at g2; exact g2.elim
      | «at» b0 k0 => rw [hm] at g2; exact g2.1
  have hownB : ∀ b, fW μ' (ai [(id, bv.lst false k els)]) b → fW μ' (ai [(id, bv.lst true k els)]) b := by
    rintro b ⟨j, bl, kk, g1, g2⟩
    obtain ⟨rfl, rfl⟩ := key j bl g1
    exact ⟨j, _, kk, hid, g2⟩
  have hfull : ∀ b o, aF A μ' (ai [(id, bv.lst false k els)]) b o → aF A μ' (ai [(id, bv.lst true k els)]) b o := fun b o g => g.elim (fun g => .inl (hown b o g)) .inr
  have hD : ∀ {d : D} {u : Value}, DRel (aF A μ' (ai [(id, bv.lst true k els)])) w' d u → DRel (aF A μ' (ai [(id, bv.lst false k els)])) w' d u := fun g => g.mono fun b o v g1 g2 => ⟨g1, fun g3 => g2 (hfull b o g3)⟩
  refine ⟨cv, μ', h1, h2.mono (fun b o v g1 g2 => ⟨g1, fun g3 => g2 (hfull b o g3)⟩) (fun _ _ g => g) (fun _ _ g => g), ⟨fun j bl hj => ?_, fun i j x y b k1 k2 hi hj hp hq => ?_, fun j x b k1 hj hp => ?_, h3.alt, h3.glob.mono fun b o v g1 g2 => ⟨g1, fun g3 => g2 (hfull b o g3)⟩⟩,
    ⟨h4.os, h4.tape, h4.output, h4.size, h4.block, h4.cells, fun b o g => h4.own b o (hown b o g), fun b g => h4.ownB b (hownB b g), h4.grow⟩, h5⟩
  · obtain ⟨rfl, rfl⟩ := key j bl hj
    rcases h3.blks j _ hid with ⟨g1, g2⟩ | ⟨b, c, ty, fr, g1, g2, g3, g4, g5⟩
    · exact .inl ⟨g1, g2⟩
    · exact .inr ⟨b, c, ty, fr, g1, g2, g3, g4, fun i d hd => ⟨(g5 i d hd).1, fun j x hx => by
        obtain ⟨v, q1, q2, q3⟩ := (g5 i d hd).2 j x hx
        exact ⟨v, q1, q2, hD q3⟩⟩⟩
  · obtain ⟨rfl, _⟩ := key i x hi
    obtain ⟨rfl, _⟩ := key j y hj
    rfl
  · obtain ⟨rfl, _⟩ := key j x hj
    exact h3.amb j _ b k1 hid hp
theorem GW {P : Program} {f : Nat} {ds : List D} {r : D} {vals : List V} {σ : aV} {n : Nat} (h : aN P f ds r) (ha : bb σ vals ds) : e8 P f vals σ n (.d r) σ n := by
  refine ⟨h.1, fun A μ w vs hs hfr hlen hrel => ?_⟩
  obtain ⟨g1, g2⟩ := bb.sound hs ha (us := vs.toList) (by simpa using hlen) (fun i x v hx hv => hrel i x v hx (by simpa using hv))
  refine (h.2 (aF A μ σ) w vs (fun b o h => ?_) hs.glob (by simpa using g1) (fun i d v hd hv => g2 i d v hd (by simpa using hv))).mono fun e w' ⟨cv, he, hcv, hb⟩ => ?_
  · rcases h with h | h
    · obtain ⟨j, bl, k, hj, hp⟩ := mc h
      obtain ⟨_, hc⟩ := di.block (hs.blks j bl hj) hp
      exact eN hc
    · exact hs.alt b o h
  exact ⟨cv, μ, he, .d _ _ hcv, hs.ofBelow hb, bE.ofBelow hs hb, fun id h => .inl h⟩
end Go.AM
