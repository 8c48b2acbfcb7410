import Derived.Test.YtkgegocfjalcbaaDoorAmN7
import Derived.Test.YtkgegocfjalcbaaDoorAmN6
/-
  AM, part 34: steps on maps whose keys and values are of types.
-/
set_option linter.unusedVariables false
set_option linter.unusedSectionVars false
set_option linter.unusedSimpArgs false
namespace Go.AM
open Go Go.RowKit
variable [Glob]

/-- A map's entries as data. -/
def eM {κ ν : Type} (ek : κ → D) (ev : ν → D) (m : List (κ × ν)) : List (D × D) := m.map fun p => (ek p.1, ev p.2)

/-- Keys as data. -/
def KeyEnc {κ : Type} [DecidableEq κ] (q : Ck) (ek : κ → D) : Prop := (∀ a, q.has (ek a) = true) ∧ ∀ a b, eqK q (ek a) (ek b) = some (decide (a = b))

theorem key_int (k : IntKind) : KeyEnc .int (D.int k) := ⟨fun _ => rfl, fun a b => by
  simp only [eqK, if_true, Option.some.injEq]
  rw [Bool.eq_iff_iff]; simp⟩
section
variable {κ ν : Type} [DecidableEq κ] {q : Ck} {ek : κ → D} {ev : ν → D}

theorem find_get (h : KeyEnc q ek) (k : κ) : ∀ (m : List (κ × ν)) (i : Nat), (∃ j v, findD q (ek k) (eM ek ev m) i = some (some (i + j, ev v)) ∧ mget m k = some v ∧ ∀ u, (eM ek ev m).set j (ek k, ev u) = eM ek ev (mput m k u)) ∨
    (findD q (ek k) (eM ek ev m) i = some none ∧ mget m k = none ∧ ∀ u, eM ek ev m ++ [(ek k, ev u)] = eM ek ev (mput m k u))
  | [], i => .inr ⟨rfl, rfl, fun u => rfl⟩
  | p :: m, i => by
    simp only [eM, List.map_cons, findD, h.2]
    by_cases c : k = p.1
    · left
      refine ⟨0, p.2, ?_, by simp [mget, c], fun u => ?_⟩
      · rw [decide_eq_true c]; rfl
      · simp [mput, c]
    · rw [decide_eq_false c]
      rcases find_get h k m (i + 1) with ⟨j, v, h1, h2, h3⟩ | ⟨h1, h2, h3⟩
      · refine .inl ⟨j + 1, v, ?_, by simp [mget, c, h2], fun u => ?_⟩
        · simp only [eM] at h1
          rw [show i + (j + 1) = i + 1 + j by omega]
          exact h1
        · have := h3 u
          simp only [eM] at this
          simp [mput, c, this]
      · refine .inr ⟨h1, by simp [mget, c, h2], fun u => ?_⟩
        have := h3 u
        simp only [eM] at this
        simp [mput, c, ← this]

variable {T : Nat → V} {σ : Store} {n : Nat} {x i u : AX} {id : Nat} {m : List (κ × ν)} {k : κ}

theorem st_mgetO (h : KeyEnc q ek) (zv : ν) {z : D} (hx : evT T x = .mref id) (hi : evT T i = .d (ek k)) (hid : σ id = some (.mp (eM ek ev m))) (hz : z = ev zv) :
    stepV (.mget q z true x i) (evT T) σ n = some (.d (.tup [ev ((mget m k).getD zv), .bool (mget m k).isSome]), σ, n) := by
  subst hz
  simp only [stepV, hx, hi, hid, h.1 k]
  rcases find_get (ev := ev) h k m 0 with ⟨j, v, h1, h2, h3⟩ | ⟨h1, h2, h3⟩
  · simp [h1, h2]
  · simp [h1, h2]

theorem st_mset (h : KeyEnc q ek) {w : ν} (hx : evT T x = .mref id) (hi : evT T i = .d (ek k)) (hu : evT T u = .d (ev w)) (hid : σ id = some (.mp (eM ek ev m))) :
    stepV (.mset q x i u) (evT T) σ n = some (V.undef, upd σ id (some (.mp (eM ek ev (mput m k w)))), n) := by
  simp only [stepV, hx, hi, hu, hid, h.1 k]
  rcases find_get (ev := ev) h k m 0 with ⟨j, v, h1, h2, h3⟩ | ⟨h1, h2, h3⟩
  · simp only [h1, Nat.zero_add, h3 w]
  · simp only [h1, h3 w]

end

theorem VN.funcs {ρ : Nat → Nat} {n0 f : Nat} {vs us : List V} (h : VNs ρ n0 vs us) : VN ρ n0 (.func f vs) (.func f us) := .func f vs us h.all.1 h.all.2

/-- A list that a call hands back may be given up. -/
theorem SCall.frz {P : Program} {f : Nat} {vals : List V} {σ : Store} {n n' id : Nat} {v : V} {k : Option Nat} {els : List D} (h : SCall P f vals σ n v (stab [(id, .lst true k els)]) n') : SCall P f vals σ n v (stab [(id, .lst false k els)]) n' := by
  refine ⟨h.1, fun A μ w vs hs hfr hlen hrel => (h.2 A μ w vs hs hfr hlen hrel).mono fun e w' ⟨cv, μ', h1, h2, h3, h4, h5⟩ => ?_⟩
  have key : ∀ j b, stab [(id, Blk.lst false k els)] j = some b → j = id ∧ b = .lst false k els := by
    intro j b hb
    simp only [stab] at hb
    split at hb
    · rename_i e; cases hb; exact ⟨e, rfl⟩
    · cases hb
  have hid : stab [(id, Blk.lst true k els)] id = some (.lst true k els) := by simp [stab]
  have hown : ∀ b o, owns μ' (stab [(id, Blk.lst false k els)]) b o → owns μ' (stab [(id, Blk.lst true k els)]) b o := by
    rintro b o ⟨j, bl, g1, g2⟩
    obtain ⟨rfl, rfl⟩ := key j bl g1
    refine ⟨j, _, hid, ?_⟩
    cases hm : μ' j with
    | none => rw [hm] at g2; exact g2.elim
    | some p => cases p with
      | nil => rw [hm] at g2; exact g2.elim
      | «at» b0 k0 => rw [hm] at g2; exact g2.1
  have hownB : ∀ b, ownsB μ' (stab [(id, Blk.lst false k els)]) b → ownsB μ' (stab [(id, Blk.lst true k els)]) b := by
    rintro b ⟨j, bl, kk, g1, g2⟩
    obtain ⟨rfl, rfl⟩ := key j bl g1
    exact ⟨j, _, kk, hid, g2⟩
  have hfull : ∀ b o, full A μ' (stab [(id, Blk.lst false k els)]) b o → full A μ' (stab [(id, Blk.lst true k els)]) b o := fun b o g => g.elim (fun g => .inl (hown b o g)) .inr
  have hD : ∀ {d : D} {u : Value}, DRel (full A μ' (stab [(id, Blk.lst true k els)])) w' d u → DRel (full A μ' (stab [(id, Blk.lst false k els)])) w' d u := fun g => g.mono fun b o v g1 g2 => ⟨g1, fun g3 => g2 (hfull b o g3)⟩
  refine ⟨cv, μ', h1, h2.mono (fun b o v g1 g2 => ⟨g1, fun g3 => g2 (hfull b o g3)⟩) (fun _ _ g => g) (fun _ _ g => g), ⟨fun j bl hj => ?_, fun i j x y b k1 k2 hi hj hp hq => ?_, fun j x b k1 hj hp => ?_, h3.alt, h3.glob.mono fun b o v g1 g2 => ⟨g1, fun g3 => g2 (hfull b o g3)⟩⟩,
    ⟨h4.os, h4.tape, h4.output, h4.size, h4.block, h4.cells, fun b o g => h4.own b o (hown b o g), fun b g => h4.ownB b (hownB b g), h4.grow⟩, h5⟩
  · obtain ⟨rfl, rfl⟩ := key j bl hj
    rcases h3.blks j _ hid with ⟨g1, g2⟩ | ⟨b, c, ty, fr, g1, g2, g3, g4, g5⟩
    · exact .inl ⟨g1, g2⟩
    · exact .inr ⟨b, c, ty, fr, g1, g2, g3, g4, fun i d hd => ⟨(g5 i d hd).1, fun j x hx => by
        obtain ⟨v, q1, q2, q3⟩ := (g5 i d hd).2 j x hx
        exact ⟨v, q1, q2, hD q3⟩⟩⟩
  · obtain ⟨rfl, _⟩ := key i x hi
    obtain ⟨rfl, _⟩ := key j y hj
    rfl
  · obtain ⟨rfl, _⟩ := key j x hj
    exact h3.amb j _ b k1 hid hp

/-- A call that hands back a list of its own, where the caller takes it as data. -/
theorem SCall.dataL {P : Program} {f : Nat} {ds : List D} {len n' : Nat} {m : Bool} {k : Option Nat} {els : List D} (h : SCall P f (ds.map V.d) (stab []) 0 (.loc 0 0 len) (stab [(0, .lst m k els)]) n') (hl : len = els.length) : PCall P f ds (.vec k els) := by
  subst hl
  refine ⟨h.1, fun A w vs halt hglob hlen hrel => ?_⟩
  have hst : stab [] = fun _ => none := rfl
  rw [hst] at h
  have hs : StoreSim A (fun _ => none) (fun _ => none) w := { blks := fun _ _ h => (nomatch h), inj := fun _ _ _ _ _ _ _ h => (nomatch h), amb := fun _ _ _ _ h => (nomatch h), alt := halt, glob := hglob.mono fun b o v h1 h2 => ⟨h1, fun h => h.elim (fun ⟨_, _, h3, _⟩ => by cases h3) h2⟩ }
  have hfull : full A (fun _ => none) (fun _ => none) = A := by
    funext b o
    apply propext
    constructor
    · rintro (⟨id, blk, h1, _⟩ | h)
      · cases h1
      · exact h
    · exact .inr
  refine (h.2 A (fun _ => none) w vs hs (fun _ _ => rfl) (by simpa using hlen) (fun i x v hx hv => ?_)).mono fun e w' ⟨cv, μ', he, hv', hs', hg, hfr'⟩ => ?_
  · rw [hfull]
    rw [List.getElem?_map] at hx
    cases hd : ds[i]? with
    | none => rw [hd] at hx; cases hx
    | some d => rw [hd] at hx; cases hx; exact .d _ _ (hrel i d v hd hv)
  · refine ⟨cv, he, viewE_sound hs' (v := .loc 0 0 els.length) ?_ hv', ⟨hg.os, hg.tape, hg.output, hg.size, fun b hb => hg.block b hb fun ⟨id, blk, k, h1, _⟩ => by cases h1⟩⟩
    simp [viewE, viewE1, viewE0, stab]

/-- A call with data, as a call with a store that it leaves alone. -/
theorem PCall.plain {P : Program} {f : Nat} {ds : List D} {r : D} {vals : List V} {σ : Store} {n : Nat} (h : PCall P f ds r) (ha : ArgsOk σ vals ds) : SCallR P f vals σ n (.d r) σ n := by
  refine ⟨h.1, fun A μ w vs hs hfr hlen hrel => ?_⟩
  obtain ⟨g1, g2⟩ := ArgsOk.sound hs ha (us := vs.toList) (by simpa using hlen) (fun i x v hx hv => hrel i x v hx (by simpa using hv))
  refine (h.2 (full A μ σ) w vs (fun b o h => ?_) hs.glob (by simpa using g1) (fun i d v hd hv => g2 i d v hd (by simpa using hv))).mono fun e w' ⟨cv, he, hcv, hb⟩ => ?_
  · rcases h with h | h
    · obtain ⟨j, bl, k, hj, hp⟩ := ownsB_of_owns h
      obtain ⟨_, hc⟩ := BRel.block (hs.blks j bl hj) hp
      exact heap_lt hc
    · exact hs.alt b o h
  exact ⟨cv, μ, he, .d _ _ hcv, hs.ofBelow hb, Guar.ofBelow hs hb, fun id h => .inl h⟩

theorem PCall.fplain {P : Program} {f : Nat} {ds : List D} {r : D} {vals : List V} (h : PCall P f ds r) (ha : ∀ σ : Store, ArgsOk σ vals ds) : FCall P f vals [] (.d r) [] :=
  ⟨fun p hp => by simp at hp, fun σ n _ => h.plain (ha σ)⟩

end Go.AM
