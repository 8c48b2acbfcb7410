import Derived.Test.YtfjelgjfbjjopaaDoorAmN7
import Derived.Test.YtfjelgjfbjjopaaDoorAmN6
set_option linter.unusedVariables false
set_option linter.unusedSectionVars false
set_option linter.unusedSimpArgs false
namespace Go.AM
open Go Go.RowKit
variable [Glob]
def eM {κ ν : Type} (ek : κ → D) (ev : ν → D) (m : List (κ × ν)) : List (D × D) := m.map fun p => (ek p.1, ev p.2)
def jh {κ : Type} [DecidableEq κ] (q : MK) (ek : κ → D) : Prop := (∀ a, q.has (ek a) = true) ∧ ∀ a b, q.eq (ek a) (ek b) = some (decide (a = b))
theorem wm (k : IntKind) (a b : Int) : dB .int (D.int k a) (D.int k b) = some (decide (a = b)) := by
  simp only [dB, if_true, Option.some.injEq]
  rw [Bool.eq_iff_iff]; simp
theorem wn (a b : ByteArray) : dB .str (D.str a) (D.str b) = some (decide (a = b)) := by
  simp only [dB, Option.some.injEq]
  rw [Bool.eq_iff_iff]; simp [tP]
theorem wo (a b : Bool) : dB .bool (D.bool a) (D.bool b) = some (decide (a = b)) := by
  simp only [dB, Option.some.injEq]
  rw [Bool.eq_iff_iff]; simp
theorem ji (k : IntKind) : jh (.one .int) (D.int k) := ⟨fun _ => rfl, fun a b => by
  simp only [MK.eq, dB, if_true, Option.some.injEq]
  rw [Bool.eq_iff_iff]; simp⟩
theorem wq : jh (.one .str) D.str := ⟨fun _ => rfl, fun a b => by
  simp only [MK.eq, dB, Option.some.injEq]
  rw [Bool.eq_iff_iff]; simp [tP]⟩
section
variable {κ ν : Type} [DecidableEq κ] {q : MK} {ek : κ → D} {ev : ν → D}
theorem oL (h : jh q ek) (k : κ) : ∀ (m : List (κ × ν)) (i : Nat), (∃ j v, fi q (ek k) (eM ek ev m) i = some (some (i + j, ev v)) ∧ mget m k = some v ∧ ∀ u, (eM ek ev m).set j (ek k, ev u) = eM ek ev (cS m k u)) ∨
    (fi q (ek k) (eM ek ev m) i = some none ∧ mget m k = none ∧ ∀ u, eM ek ev m ++ [(ek k, ev u)] = eM ek ev (cS m k u))
  | [], i => .inr ⟨rfl, rfl, fun u => rfl⟩
  | p :: m, i => by
    simp only [eM, List.map_cons, fi, h.2]
    by_cases c : k = p.1
    · left
      refine ⟨0, p.2, ?_, by simp [mget, c], fun u => ?_⟩
      · rw [decide_eq_true c]; rfl
      · simp [cS, c]
    · rw [decide_eq_false c]
      rcases oL h k m (i + 1) with ⟨j, v, h1, h2, h3⟩ | ⟨h1, h2, h3⟩
      · refine .inl ⟨j + 1, v, ?_, by simp [mget, c, h2], fun u => ?_⟩
        · simp only [eM] at h1
          rw [show i + (j + 1) = i + 1 + j by omega]
          exact h1
        · have := h3 u
          simp only [eM] at this
          simp [cS, c, this]
      · refine .inr ⟨h1, by simp [mget, c, h2], fun u => ?_⟩
        have := h3 u
        simp only [eM] at this
        simp [cS, c, ← this]
variable {T : Nat → V} {σ : aB} {n : Nat} {x i u : AX} {id : Nat} {m : List (κ × ν)} {k : κ}
theorem kS (h : jh q ek) (zv : ν) {z : D} (hx : aE T x = .mref id) (hi : aE T i = .d (ek k)) (hid : σ id = some (.mp (eM ek ev m))) (hz : z = ev zv) :
    aD (.mget q z true x i) (aE T) σ n = some (.d (.tup [ev ((mget m k).getD zv), .bool (mget m k).isSome]), σ, n) := by
  subst hz
  simp only [aD, hx, hi, hid, h.1 k]
  rcases oL (ev := ev) h k m 0 with ⟨j, v, h1, h2, h3⟩ | ⟨h1, h2, h3⟩
  · simp [h1, h2]
  · simp [h1, h2]
theorem wr (h : jh q ek) (zv : ν) {z : D} (hx : aE T x = .mref id) (hi : aE T i = .d (ek k)) (hid : σ id = some (.mp (eM ek ev m))) (hz : z = ev zv) :
    aD (.mget q z false x i) (aE T) σ n = some (.d (ev ((mget m k).getD zv)), σ, n) := by
  subst hz
  simp only [aD, hx, hi, hid, h.1 k]
  rcases oL (ev := ev) h k m 0 with ⟨j, v, h1, h2, h3⟩ | ⟨h1, h2, h3⟩
  · simp [h1, h2]
  · simp [h1, h2]
theorem kT (h : jh q ek) {w : ν} (hx : aE T x = .mref id) (hi : aE T i = .d (ek k)) (hu : aE T u = .d (ev w)) (hid : σ id = some (.mp (eM ek ev m))) :
    aD (.mset q x i u) (aE T) σ n = some (V.undef, ai σ id (some (.mp (eM ek ev (cS m k w)))), n) := by
  simp only [aD, hx, hi, hu, hid, h.1 k]
  rcases oL (ev := ev) h k m 0 with ⟨j, v, h1, h2, h3⟩ | ⟨h1, h2, h3⟩
  · simp only [h1, Nat.zero_add, h3 w]
  · simp only [h1, h3 w]
end
theorem mx {P : Program} {T : Nat → V} {σ σ' : aB} {n n' : Nat} {dst : Option Nat} {l : List bF} {K : S → Prop} {f : Nat} {x : AX} {xs : List AX} {caps : List V} {v : V} (hx : aE T x = .func f caps) (hp : ew P f (xs.map (aE T) ++ caps) σ n v σ' n') (hn : n ≤ n')
    (k : ba P l ⟨br T dst v, σ', n'⟩ K) : ba P (⟨dst, .callv true x xs, none⟩ :: l) ⟨T, σ, n⟩ K :=
  ⟨f, caps, v, σ', n', .inl hx, hp, hn, k⟩
theorem VN.funcs {ρ : Nat → Nat} {n0 f : Nat} {vs us : List V} (h : ar ρ n0 vs us) : VN ρ n0 (.func f vs) (.func f us) := .func f vs us h.all.1 h.all.2
theorem bZ.frz {P : Program} {f : Nat} {vals : List V} {σ : aB} {n n' id : Nat} {v : V} {k : Option Nat} {els : List D} (h : bZ P f vals σ n v (ag [(id, .lst true k els)]) n') : bZ P f vals σ n v (ag [(id, .lst false k els)]) n' := by
  refine ⟨h.1, fun A μ w vs hs hfr hlen hrel => (h.2 A μ w vs hs hfr hlen hrel).mono fun e w' ⟨cv, μ', h1, h2, h3, h4, h5⟩ => ?_⟩
  have key : ∀ j b, ag [(id, aP.lst false k els)] j = some b → j = id ∧ b = .lst false k els := by
    intro j b hb
    simp only [ag] at hb
    split at hb
    · rename_i e; cases hb; exact ⟨e, rfl⟩
    · cases hb
  have hid : ag [(id, aP.lst true k els)] id = some (.lst true k els) := by simp [ag]
  have hown : ∀ b o, dw μ' (ag [(id, aP.lst false k els)]) b o → dw μ' (ag [(id, aP.lst true k els)]) b o := by
    rintro b o ⟨j, bl, g1, g2⟩
    obtain ⟨rfl, rfl⟩ := key j bl g1
    refine ⟨j, _, hid, ?_⟩
    cases hm : μ' j with
    | none => rw [hm] at g2; exact g2.elim
    | some p => cases p with
      | nil => rw [hm] at g2; exact g2.elim
      | «at» b0 k0 => rw [hm] at g2; exact g2.1
  have hownB : ∀ b, fy μ' (ag [(id, aP.lst false k els)]) b → fy μ' (ag [(id, aP.lst true k els)]) b := by
    rintro b ⟨j, bl, kk, g1, g2⟩
    obtain ⟨rfl, rfl⟩ := key j bl g1
    exact ⟨j, _, kk, hid, g2⟩
  have hfull : ∀ b o, au A μ' (ag [(id, aP.lst false k els)]) b o → au A μ' (ag [(id, aP.lst true k els)]) b o := fun b o g => g.elim (fun g => .inl (hown b o g)) .inr
  have hD : ∀ {d : D} {u : Value}, DRel (au A μ' (ag [(id, aP.lst true k els)])) w' d u → DRel (au A μ' (ag [(id, aP.lst false k els)])) w' d u := fun g => g.mono fun b o v g1 g2 => ⟨g1, fun g3 => g2 (hfull b o g3)⟩
  refine ⟨cv, μ', h1, h2.mono (fun b o v g1 g2 => ⟨g1, fun g3 => g2 (hfull b o g3)⟩) (fun _ _ g => g) (fun _ _ g => g), ⟨fun j bl hj => ?_, fun i j x y b k1 k2 hi hj hp hq => ?_, fun j x b k1 hj hp => ?_, h3.alt, h3.glob.mono fun b o v g1 g2 => ⟨g1, fun g3 => g2 (hfull b o g3)⟩⟩,
    ⟨h4.os, h4.tape, h4.output, h4.size, h4.block, h4.cells, fun b o g => h4.own b o (hown b o g), fun b g => h4.ownB b (hownB b g), h4.grow⟩, h5⟩
  · obtain ⟨rfl, rfl⟩ := key j bl hj
    rcases h3.blks j _ hid with ⟨g1, g2⟩ | ⟨b, c, ty, fr, g1, g2, g3, g4, g5⟩
    · exact .inl ⟨g1, g2⟩
    · exact .inr ⟨b, c, ty, fr, g1, g2, g3, g4, fun i d hd => ⟨(g5 i d hd).1, fun j x hx => by
        obtain ⟨v, q1, q2, q3⟩ := (g5 i d hd).2 j x hx
        exact ⟨v, q1, q2, hD q3⟩⟩⟩
  · obtain ⟨rfl, _⟩ := key i x hi
    obtain ⟨rfl, _⟩ := key j y hj
    rfl
  · obtain ⟨rfl, _⟩ := key j x hj
    exact h3.amb j _ b k1 hid hp
theorem EX {P : Program} {f : Nat} {ds : List D} {r : D} {vals : List V} {σ : aB} {n : Nat} (h : PCall P f ds r) (ha : aN σ vals ds) : ew P f vals σ n (.d r) σ n := by
  refine ⟨h.1, fun A μ w vs hs hfr hlen hrel => ?_⟩
  obtain ⟨g1, g2⟩ := aN.sound hs ha (us := vs.toList) (by simpa using hlen) (fun i x v hx hv => hrel i x v hx (by simpa using hv))
  refine (h.2 (au A μ σ) w vs (fun b o h => ?_) hs.glob (by simpa using g1) (fun i d v hd hv => g2 i d v hd (by simpa using hv))).mono fun e w' ⟨cv, he, hcv, hb⟩ => ?_
  · rcases h with h | h
    · obtain ⟨j, bl, k, hj, hp⟩ := k9 h
      obtain ⟨_, hc⟩ := cG.block (hs.blks j bl hj) hp
      exact dX hc
    · exact hs.alt b o h
  exact ⟨cv, μ, he, .d _ _ hcv, hs.ofBelow hb, aW.ofBelow hs hb, fun id h => .inl h⟩
end Go.AM
