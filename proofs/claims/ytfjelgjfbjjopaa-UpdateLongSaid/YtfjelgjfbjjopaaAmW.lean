import Derived.Test.YtfjelgjfbjjopaaAmSl
import Derived.Test.YtfjelgjfbjjopaaAmG
import Derived.Test.YtfjelgjfbjjopaaAmN6
/-  Several texts in one. -/
section
set_option linter.unusedVariables false
set_option linter.unusedSectionVars false
set_option linter.unusedSimpArgs false
namespace Go.AM
open Go Go.RowKit
variable [Glob]
def fC (ρ : Nat → Nat) (b : Nat) (L : List (List Int)) : List V := L.mapIdx fun i l => .loc (ρ (b + i)) 0 l.length
def jV (b : Nat) (L : List (List Int)) : List V := fC id b L
def lG (bl : List (Nat × aK)) (b : Nat) (L : List (List Int)) : au := fun id => if id < b then ag bl id else (L[id - b]?).map fun l => .lst true none (l.map (D.int .i64))
theorem sC (ρ : Nat → Nat) (b : Nat) (L : List (List Int)) (i : Nat) : (fC ρ b L)[i]? = (L[i]?).map fun l => .loc (ρ (b + i)) 0 l.length := by simp [fC]
theorem sD (b : Nat) (L : List (List Int)) (i : Nat) : (jV b L)[i]? = (L[i]?).map fun l => .loc (b + i) 0 l.length := by simp [jV, fC]
theorem sE (ρ : Nat → Nat) (b : Nat) (L : List (List Int)) : (fC ρ b L).length = L.length := by simp [fC]
theorem sF (b : Nat) (L : List (List Int)) : (jV b L).length = L.length := by simp [jV, fC]
theorem sG {bl : List (Nat × aK)} {b : Nat} {L : List (List Int)} {id : Nat} (h : id < b) : lG bl b L id = ag bl id := if_pos h
theorem sH {bl : List (Nat × aK)} {b : Nat} {L : List (List Int)} {i : Nat} {l : List Int} (h : L[i]? = some l) : lG bl b L (b + i) = some (.lst true none (l.map (D.int .i64))) := by
  unfold lG
  rw [if_neg (by omega), Nat.add_sub_cancel_left, h]; rfl
section
variable {na : Nat}
theorem a8.fam {s : S} {bl : List (Nat × aK)} {l : List (Nat × V)} {b : Nat} {L : List (List Int)} (ρ : Nat → Nat) (h1 : ∀ id, id < na → ρ id = id) (hinj : ∀ x y, x < b + L.length → y < b + L.length → ρ x = ρ y → x = y) (hna : na ≤ b)
    (hT : TN ρ (b + L.length) s.T l) (hk : ∀ p ∈ bl, p.1 < b) (hbl : SN ρ (b + L.length) s.σ bl) (hin : ∀ i l, L[i]? = some l → s.σ (ρ (b + i)) = some (.lst true none (l.map (D.int .i64)))) : a8 na s ⟨tab l, AM.lG bl b L, b + L.length⟩ := by
  have hlt : ∀ id, AM.lG bl b L id ≠ none → id < b ∨ ∃ i, i < L.length ∧ id = b + i := by
    intro id h
    by_cases e : id < b
    · exact .inl e
    · unfold AM.lG at h
      rw [if_neg e] at h
      refine .inr ⟨id - b, ?_, by omega⟩
      rcases Nat.lt_or_ge (id - b) L.length with h' | h'
      · exact h'
      · rw [List.getElem?_eq_none h'] at h; exact (h rfl).elim
  have hlt' : ∀ id, AM.lG bl b L id ≠ none → id < b + L.length := fun id h => (hlt id h).elim (fun h => by omega) fun ⟨i, h1, h2⟩ => by omega
  refine a8.of ρ (b + L.length) (by omega) h1 (fun x y hx hy e => hinj x y (hlt' x hx) (hlt' y hy) e) hT.all (fun id blk h => ?_)
  · rcases hlt id (by rw [h]; simp) with hid | ⟨i, hi, rfl⟩
    · rw [sG hid] at h
      obtain ⟨_, b', g1, g2⟩ := hbl.all id blk h
      exact ⟨by omega, b', g1, g2⟩
    · obtain ⟨l, hl⟩ : ∃ l, L[i]? = some l := ⟨_, bt hi⟩
      rw [sH hl] at h
      cases h
      exact ⟨by omega, _, hin i l hl, .lst _ _ _⟩
theorem BN.locs {ρ : Nat → Nat} {b : Nat} {L : List (List Int)} {cs : List V} (h : cs = fC ρ b L) {n0 : Nat} (hn : n0 = b + L.length) : BN ρ n0 (.var cs) (.var (AM.jV b L)) := by
  subst h; subst hn
  refine .var _ _ (by rw [sE, sF]) fun i x y hx hy => ?_
  rw [sC] at hx
  rw [sD] at hy
  cases hl : L[i]? with
  | none => rw [hl] at hx; cases hx
  | some l =>
    rw [hl] at hx hy
    cases hx; cases hy
    exact .loc (b + i) 0 l.length (by have := (List.getElem?_eq_some_iff.1 hl).1; omega)
end
end Go.AM
end
section
set_option linter.unusedVariables false
set_option linter.unusedSectionVars false
namespace Go.AM
open Go Go.RowKit
variable [Glob]
@[reducible] def vi (x : Int) : V := .d (.int .i64 x)
@[reducible] def vh (x : Int) : V := .d (.int .u16 x)
@[reducible] def v8 (x : Int) : V := .d (.int .u8 x)
@[reducible] def oo (n : Nat) (op : aM) : aQ := ⟨some n, op, none⟩
@[reducible] def ci (n : Int) : AX := .c (.int .i64 n)
@[reducible] def vb (x : Bool) : V := .d (.bool x)
@[reducible] def mv (a b : Nat) : aQ := ⟨some a, .mov (.t b), none⟩
@[reducible] def ld (a b : Nat) : aQ := ⟨some a, .load none (.t b), none⟩
@[reducible] def li (a b : Nat) : aQ := ⟨some a, .ldI none (.t b), none⟩
@[reducible] def ia (a b c : Nat) : aQ := ⟨some a, .iaddr none (.t b) (.t c), none⟩
@[reducible] def ln (a b : Nat) : aQ := ⟨some a, .len (.t b), none⟩
@[reducible] def fa (a k b : Nat) : aQ := ⟨some a, .faddr k (.t b), none⟩
@[reducible] def bi (a : Nat) (o : BinOp) (b c : Nat) : aQ := ⟨some a, .bin o (.t b) (.t c), none⟩
@[reducible] def bc (a : Nat) (o : BinOp) (b : Nat) (n : Int) : aQ := ⟨some a, .bin o (.t b) (.c (.int .i64 n)), none⟩
@[reducible] def so (l : List aQ) (y : bk) : bk := .seq (.ops false l) y
def V.flat (n0 : Nat) : V → Bool
  | .d _ => true
  | .loc id _ _ => decide (id < n0)
  | .ptr id _ _ => decide (id < n0)
  | .mref id => decide (id < n0)
  | _ => false
def V.rn0 (ρ : Nat → Nat) : V → V
  | .loc id o l => .loc (ρ id) o l
  | .ptr id i j => .ptr (ρ id) i j
  | .mref id => .mref (ρ id)
  | v => v
def V.simple (n0 : Nat) : V → Bool
  | .d _ => true
  | .loc id _ _ => decide (id < n0)
  | .ptr id _ _ => decide (id < n0)
  | .mref id => decide (id < n0)
  | .func _ cs => cs.all (V.flat n0)
  | _ => false
def V.rn1 (ρ : Nat → Nat) : V → V
  | .loc id o l => .loc (ρ id) o l
  | .ptr id i j => .ptr (ρ id) i j
  | .mref id => .mref (ρ id)
  | .func f cs => .func f (cs.map (V.rn0 ρ))
  | v => v
theorem sI {ρ : Nat → Nat} {n0 : Nat} {y : V} (hs : y.flat n0 = true) : VN ρ n0 (y.rn0 ρ) y := by
  cases y <;> simp [V.flat] at hs
  case d x => exact .d x
  case loc id o l => exact .loc id o l hs
  case ptr id i j => exact .ptr id i j hs
  case mref id => exact .mref id hs
theorem VN.rr {ρ : Nat → Nat} {n0 : Nat} {x y : V} (h : x = y.rn1 ρ) (hs : y.simple n0 = true) : VN ρ n0 x y := by
  subst h
  cases y <;> simp [V.simple] at hs
  case d x => exact .d x
  case loc id o l => exact .loc id o l hs
  case ptr id i j => exact .ptr id i j hs
  case mref id => exact .mref id hs
  case func f cs =>
    refine .func f _ _ (by simp) fun i a b ha hb => ?_
    rw [List.getElem?_map, hb] at ha
    cases aH ha
    exact sI (hs b (dx hb))
theorem TN.rr {ρ : Nat → Nat} {n0 : Nat} {T : Nat → V} : ∀ {l : List (Nat × V)}, l.map (fun p => T p.1) = l.map (fun p => p.2.rn1 ρ) → l.all (fun p => p.2.simple n0) = true → TN ρ n0 T l
  | [], _, _ => trivial
  | p :: l, h, hs => by
    simp only [List.map_cons, List.cons.injEq, List.all_cons, Bool.and_eq_true] at h hs
    exact ⟨.rr h.1 hs.1, TN.rr h.2 hs.2⟩
def aK.simple (n0 : Nat) : aK → Bool
  | .lst _ _ _ => true
  | .mp _ => true
  | .var cs => cs.all (V.simple n0)
def aK.rn1 (ρ : Nat → Nat) : aK → aK
  | .var cs => .var (cs.map (V.rn1 ρ))
  | b => b
theorem ce.rr {ρ : Nat → Nat} {n0 : Nat} : ∀ {l : List V}, l.all (V.simple n0) = true → ce ρ n0 (l.map (V.rn1 ρ)) l
  | [], _ => trivial
  | x :: l, h => by
    simp only [List.all_cons, Bool.and_eq_true] at h
    exact ⟨.rr rfl h.1, ce.rr h.2⟩
theorem SN.rr {ρ : Nat → Nat} {n0 : Nat} {σ : au} : ∀ {l : List (Nat × aK)}, l.map (fun p => σ (ρ p.1)) = l.map (fun p => some (p.2.rn1 ρ)) → l.all (fun p => decide (p.1 < n0) && p.2.simple n0) = true → SN ρ n0 σ l
  | [], _, _ => trivial
  | p :: l, h, hs => by
    simp only [List.map_cons, List.cons.injEq, List.all_cons, Bool.and_eq_true, decide_eq_true_eq] at h hs
    refine ⟨⟨hs.1.1, _, h.1, ?_⟩, SN.rr h.2 hs.2⟩
    cases hp : p.2 with
    | lst m k els => exact .lst _ _ _
    | mp es => exact .mp _
    | var cs =>
      have := hs.1.2
      rw [hp] at this
      exact .vars (ce.rr this)
theorem nr {na : Nat} (rl : List Nat) {s : S} {l : List (Nat × V)} {bl : List (Nat × aK)} (h1 : rl.Nodup := by decide) (h2 : rl.take na = List.range na := by decide) (h3 : na ≤ rl.length := by decide)
    (hT : l.map (fun p => s.T p.1) = l.map (fun p => p.2.rn1 (rn rl)) := by exact rfl) (hs : l.all (fun p => p.2.simple rl.length) = true := by exact rfl)
    (hσ : bl.map (fun p => s.σ (rn rl p.1)) = bl.map (fun p => some (p.2.rn1 (rn rl))) := by exact rfl) (hb : bl.all (fun p => decide (p.1 < rl.length) && p.2.simple rl.length) = true := by exact rfl) : a8 na s ⟨tab l, ag bl, rl.length⟩ :=
  a8.mk rl h1 h2 h3 (TN.rr hT hs) (SN.rr hσ hb)
theorem nR {P : Program} {na : Nat} (rl : List Nat) {s : S} {l : List (Nat × V)} {bl : List (Nat × aK)} (h1 : rl.Nodup := by decide) (h2 : rl.take na = List.range na := by decide) (h3 : na ≤ rl.length := by decide)
    (hT : l.map (fun p => s.T p.1) = l.map (fun p => p.2.rn1 (rn rl)) := by exact rfl) (hs : l.all (fun p => p.2.simple rl.length) = true := by exact rfl)
    (hσ : bl.map (fun p => s.σ (rn rl p.1)) = bl.map (fun p => some (p.2.rn1 (rn rl))) := by exact rfl) (hb : bl.all (fun p => decide (p.1 < rl.length) && p.2.simple rl.length) = true := by exact rfl) : aV P [] s (fun s' => a8 na s' ⟨tab l, ag bl, rl.length⟩) :=
  a8.mk rl h1 h2 h3 (TN.rr hT hs) (SN.rr hσ hb)
theorem nm {na : Nat} (rl : List Nat) {s : S} {l : List (Nat × V)} {bl : List (Nat × aK)} (hT : TN (rn rl) rl.length s.T l) (hσ : SN (rn rl) rl.length s.σ bl) (h1 : rl.Nodup := by decide) (h2 : rl.take na = List.range na := by decide) (h3 : na ≤ rl.length := by decide) : a8 na s ⟨tab l, ag bl, rl.length⟩ :=
  a8.mk rl h1 h2 h3 hT hσ
section
variable {P : Program} {T : Nat → V} {σ : au} {n : Nat} {dst : Option Nat} {op : aM} {l : List aQ} {K : S → Prop}
theorem q1 (v : V) {σ' : au} {n' : Nat} (k : aV P l ⟨aO T dst v, σ', n'⟩ K) (h : ay op (aD T) σ n = some (v, σ', n') := by exact rfl) : aV P (⟨dst, op, none⟩ :: l) ⟨T, σ, n⟩ K := step h k
theorem qX (c : Bool) {g : Nat} {b : Bool} (hb : ¬ c = b) (k : aV P l ⟨aO T dst V.skip, σ, n⟩ K) (hg : T g = .d (.bool c) := by exact rfl) : aV P (⟨dst, op, some (g, b)⟩ :: l) ⟨T, σ, n⟩ K := qK hg hb k
theorem qG (c : Bool) {g : Nat} {b : Bool} (hb : c = b) (k : aV P (⟨dst, op, none⟩ :: l) ⟨T, σ, n⟩ K) (hg : T g = .d (.bool c) := by exact rfl) : aV P (⟨dst, op, some (g, b)⟩ :: l) ⟨T, σ, n⟩ K := qJ hg hb k
end
theorem VN.lc {ρ : Nat → Nat} {n0 : Nat} (id : Nat) {off len : Nat} (h : id < n0 := by decide) : VN ρ n0 (.loc (ρ id) off len) (.loc id off len) := .loc id off len h
theorem VN.pt {ρ : Nat → Nat} {n0 : Nat} (id : Nat) {i j : Nat} (h : id < n0 := by decide) : VN ρ n0 (.ptr (ρ id) i j) (.ptr id i j) := .ptr id i j h
section
variable {P : Program} {T : Nat → V} {σ : au} {n : Nat} {d d2 d3 d4 : Option Nat} {o o2 o3 o4 : aM} {l : List aQ} {K : S → Prop} {v v2 v3 v4 : V} {σ' σ2 σ3 σ4 : au} {n' n2 n3 n4 : Nat}
theorem q2 (k : aV P l ⟨aO (aO T d v) d2 v2, σ2, n2⟩ K) (h : ay o (aD T) σ n = some (v, σ', n') := by exact rfl) (h2 : ay o2 (aD (aO T d v)) σ' n' = some (v2, σ2, n2) := by exact rfl) :
    aV P (⟨d, o, none⟩ :: ⟨d2, o2, none⟩ :: l) ⟨T, σ, n⟩ K := step h (step h2 k)
theorem q3 (k : aV P l ⟨aO (aO (aO T d v) d2 v2) d3 v3, σ3, n3⟩ K) (h : ay o (aD T) σ n = some (v, σ', n') := by exact rfl) (h2 : ay o2 (aD (aO T d v)) σ' n' = some (v2, σ2, n2) := by exact rfl)
    (h3 : ay o3 (aD (aO (aO T d v) d2 v2)) σ2 n2 = some (v3, σ3, n3) := by exact rfl) : aV P (⟨d, o, none⟩ :: ⟨d2, o2, none⟩ :: ⟨d3, o3, none⟩ :: l) ⟨T, σ, n⟩ K := step h (step h2 (step h3 k))
theorem q4 (k : aV P l ⟨aO (aO (aO (aO T d v) d2 v2) d3 v3) d4 v4, σ4, n4⟩ K) (h : ay o (aD T) σ n = some (v, σ', n') := by exact rfl) (h2 : ay o2 (aD (aO T d v)) σ' n' = some (v2, σ2, n2) := by exact rfl)
    (h3 : ay o3 (aD (aO (aO T d v) d2 v2)) σ2 n2 = some (v3, σ3, n3) := by exact rfl) (h4 : ay o4 (aD (aO (aO (aO T d v) d2 v2) d3 v3)) σ3 n3 = some (v4, σ4, n4) := by exact rfl) :
    aV P (⟨d, o, none⟩ :: ⟨d2, o2, none⟩ :: ⟨d3, o3, none⟩ :: ⟨d4, o4, none⟩ :: l) ⟨T, σ, n⟩ K := step h (step h2 (step h3 (step h4 k)))
theorem qq (k : aV P l ⟨aO T d v, σ', n'⟩ K) (h : ay o (aD T) σ n = some (v, σ', n') := by exact rfl) : aV P (⟨d, o, none⟩ :: l) ⟨T, σ, n⟩ K := step h k
end
section
variable {P : Program} {N na : Nat} {T : Nat → V} {σ : au} {n : Nat} {y : bk} {Q : Exit → S → Prop}
theorem oK {s : S} {d : Bool} {l : List aQ} (h : aV P l s fun s' => az P N na y Q s') : az P N na (.seq (.ops d l) y) Q s :=
  nD (ax.RunOps_mono l s (fun s' hs => ⟨s', a8.refl _, hs⟩) h)
def gZ (T : Nat → V) : List (Nat × V) → Prop
  | [] => True
  | p :: l => T p.1 = p.2 ∧ gZ T l
theorem gZ.of {T : Nat → V} : ∀ {l : List (Nat × V)}, l.map (fun p => T p.1) = l.map (·.2) → gZ T l
  | [], _ => trivial
  | p :: l, h => by
    simp only [List.map_cons, List.cons.injEq] at h
    exact ⟨h.1, gZ.of h.2⟩
theorem a8.slots {na : Nat} {s : S} (l : List (Nat × V)) (h : gZ s.T l) : a8 na s ⟨tab l, s.σ, s.n⟩ := by
  intro N A μ a w ⟨hs, hfr⟩
  refine ⟨μ, ⟨⟨hs.size, hs.defers, fun i => ?_, hs.store⟩, hfr⟩, (aA.refl _ _ _).ng⟩
  have key : ∀ l : List (Nat × V), gZ s.T l → tab l i = s.T i ∨ tab l i = V.undef := by
    intro l
    induction l with
    | nil => intro _; exact .inr rfl
    | cons p l ih =>
      intro h
      simp only [tab]
      by_cases c : i = p.1
      · rw [if_pos c, c]; exact .inl h.1.symm
      · rw [if_neg c]; exact ih h.2
  rcases key l h with e | e
  · show aw _ _ _ (tab l i) _
    rw [e]; exact hs.tmps i
  · show aw _ _ _ (tab l i) _
    rw [e]; exact .d _ _ (.undef _)
end
theorem dn {p : Prop} [Decidable p] (h : ¬ p) : ¬ decide p = true := fun hq => h (of_decide_eq_true hq)
section
variable {P : Program} {n n' : Nat}
theorem PCall.inW [DfrOk P] {f : Nat} (af : cm) {ds : List D} {r : D} (h : az P af.n 0 af.code (FQ af.res r) ⟨eS (ds.map V.d), fun _ => none, 0⟩) (hc : cn P f af = true := by kernel_rfl) (hl : Nat.ble ds.length af.n = true := by exact rfl) : PCall P f ds r :=
  PCall.introN hc (Nat.le_of_ble_eq_true hl) h
theorem cy.inW [DfrOk P] {f : Nat} (af : cm) {vals : List V} {bl bl' : List (Nat × aK)} {v : V} (h : az P af.n n af.code (SQ af.res v bl' n') ⟨eS vals, ag bl, n⟩) (hc : cn P f af = true := by kernel_rfl) (hl : Nat.ble vals.length af.n = true := by exact rfl)
    (hdom : bl.map (·.1) = List.range n := by exact rfl) : cy P f vals (ag bl) n v (ag bl') n' :=
  cy.introN hc (Nat.le_of_ble_eq_true hl) hdom h
end
end Go.AM
end
