import Derived.Test.YtnnkfanmokeiaaaAmPv
set_option linter.unusedVariables false
set_option linter.unusedSectionVars false
namespace Go.AM
open Go Go.RowKit
variable [Glob]
@[reducible] def vi (x : Int) : V := .d (.int .i64 x)
@[reducible] def vh (x : Int) : V := .d (.int .u16 x)
@[reducible] def v8 (x : Int) : V := .d (.int .u8 x)
@[reducible] def oo (n : Nat) (op : bF) : bL := ⟨some n, op, none⟩
@[reducible] def ci (n : Int) : AX := .c (.int .i64 n)
@[reducible] def vb (x : Bool) : V := .d (.bool x)
@[reducible] def mv (a b : Nat) : bL := ⟨some a, .mov (.t b), none⟩
@[reducible] def ld (a b : Nat) : bL := ⟨some a, .load none (.t b), none⟩
@[reducible] def li (a b : Nat) : bL := ⟨some a, .ldI none (.t b), none⟩
@[reducible] def ia (a b c : Nat) : bL := ⟨some a, .iaddr none (.t b) (.t c), none⟩
@[reducible] def ln (a b : Nat) : bL := ⟨some a, .len (.t b), none⟩
@[reducible] def fa (a k b : Nat) : bL := ⟨some a, .faddr k (.t b), none⟩
@[reducible] def bi (a : Nat) (o : BinOp) (b c : Nat) : bL := ⟨some a, .bin o (.t b) (.t c), none⟩
@[reducible] def bc (a : Nat) (o : BinOp) (b : Nat) (n : Int) : bL := ⟨some a, .bin o (.t b) (.c (.int .i64 n)), none⟩
@[reducible] def so (l : List bL) (y : bC) : bC := .seq (.ops false l) y
def V.flat (n0 : Nat) : V → Bool
  | .d _ => true
  | .loc id _ _ => decide (id < n0)
  | .ptr id _ _ => decide (id < n0)
  | .mref id => decide (id < n0)
  | _ => false
def V.rn0 (ρ : Nat → Nat) : V → V
  | .loc id o l => .loc (ρ id) o l
  | .ptr id i j => .ptr (ρ id) i j
  | .mref id => .mref (ρ id)
  | v => v
def V.simple (n0 : Nat) : V → Bool
  | .d _ => true
  | .loc id _ _ => decide (id < n0)
  | .ptr id _ _ => decide (id < n0)
  | .mref id => decide (id < n0)
  | .func _ cs => cs.all (V.flat n0)
  | _ => false
def V.rn1 (ρ : Nat → Nat) : V → V
  | .loc id o l => .loc (ρ id) o l
  | .ptr id i j => .ptr (ρ id) i j
  | .mref id => .mref (ρ id)
  | .func f cs => .func f (cs.map (V.rn0 ρ))
  | v => v
theorem Cr {ρ : Nat → Nat} {n0 : Nat} {y : V} (hs : y.flat n0 = true) : VN ρ n0 (y.rn0 ρ) y := by
  cases y <;> simp [V.flat] at hs
  case d x => exact .d x
  case loc id o l => exact .loc id o l hs
  case ptr id i j => exact .ptr id i j hs
  case mref id => exact .mref id hs
theorem VN.rr {ρ : Nat → Nat} {n0 : Nat} {x y : V} (h : x = y.rn1 ρ) (hs : y.simple n0 = true) : VN ρ n0 x y := by
  subst h
  cases y <;> simp [V.simple] at hs
  case d x => exact .d x
  case loc id o l => exact .loc id o l hs
  case ptr id i j => exact .ptr id i j hs
  case mref id => exact .mref id hs
  case func f cs =>
    refine .func f _ _ (by simp) fun i a b ha hb => ?_
    rw [List.getElem?_map, hb] at ha
    cases bM ha
    exact Cr (hs b (c7 hb))
theorem TN.rr {ρ : Nat → Nat} {n0 : Nat} {T : Nat → V} : ∀ {l : List (Nat × V)}, l.map (fun p => T p.1) = l.map (fun p => p.2.rn1 ρ) → l.all (fun p => p.2.simple n0) = true → TN ρ n0 T l
  | [], _, _ => trivial
  | p :: l, h, hs => by
    simp only [List.map_cons, List.cons.injEq, List.all_cons, Bool.and_eq_true] at h hs
    exact ⟨.rr h.1 hs.1, TN.rr h.2 hs.2⟩
def bu.simple (n0 : Nat) : bu → Bool
  | .lst _ _ _ => true
  | .mp _ => true
  | .var cs => cs.all (V.simple n0)
def bu.rn1 (ρ : Nat → Nat) : bu → bu
  | .var cs => .var (cs.map (V.rn1 ρ))
  | b => b
theorem dC.rr {ρ : Nat → Nat} {n0 : Nat} : ∀ {l : List V}, l.all (V.simple n0) = true → dC ρ n0 (l.map (V.rn1 ρ)) l
  | [], _ => trivial
  | x :: l, h => by
    simp only [List.all_cons, Bool.and_eq_true] at h
    exact ⟨.rr rfl h.1, dC.rr h.2⟩
theorem SN.rr {ρ : Nat → Nat} {n0 : Nat} {σ : aL} : ∀ {l : List (Nat × bu)}, l.map (fun p => σ (ρ p.1)) = l.map (fun p => some (p.2.rn1 ρ)) → l.all (fun p => decide (p.1 < n0) && p.2.simple n0) = true → SN ρ n0 σ l
  | [], _, _ => trivial
  | p :: l, h, hs => by
    simp only [List.map_cons, List.cons.injEq, List.all_cons, Bool.and_eq_true, decide_eq_true_eq] at h hs
    refine ⟨⟨hs.1.1, _, h.1, ?_⟩, SN.rr h.2 hs.2⟩
    cases hp : p.2 with
    | lst m k els => exact .lst _ _ _
    | mp es => exact .mp _
    | var cs =>
      have := hs.1.2
      rw [hp] at this
      exact .vars (dC.rr this)
theorem nr {na : Nat} (rl : List Nat) {s : S} {l : List (Nat × V)} {bl : List (Nat × bu)} (h1 : rl.Nodup := by decide) (h2 : rl.take na = List.range na := by decide) (h3 : na ≤ rl.length := by decide)
    (hT : l.map (fun p => s.T p.1) = l.map (fun p => p.2.rn1 (rn rl)) := by exact rfl) (hs : l.all (fun p => p.2.simple rl.length) = true := by exact rfl)
    (hσ : bl.map (fun p => s.σ (rn rl p.1)) = bl.map (fun p => some (p.2.rn1 (rn rl))) := by exact rfl) (hb : bl.all (fun p => decide (p.1 < rl.length) && p.2.simple rl.length) = true := by exact rfl) : bW na s ⟨tab l, ai bl, rl.length⟩ :=
  bW.mk rl h1 h2 h3 (TN.rr hT hs) (SN.rr hσ hb)
theorem nR {P : Program} {na : Nat} (rl : List Nat) {s : S} {l : List (Nat × V)} {bl : List (Nat × bu)} (h1 : rl.Nodup := by decide) (h2 : rl.take na = List.range na := by decide) (h3 : na ≤ rl.length := by decide)
    (hT : l.map (fun p => s.T p.1) = l.map (fun p => p.2.rn1 (rn rl)) := by exact rfl) (hs : l.all (fun p => p.2.simple rl.length) = true := by exact rfl)
    (hσ : bl.map (fun p => s.σ (rn rl p.1)) = bl.map (fun p => some (p.2.rn1 (rn rl))) := by exact rfl) (hb : bl.all (fun p => decide (p.1 < rl.length) && p.2.simple rl.length) = true := by exact rfl) : aQ P [] s (fun s' => bW na s' ⟨tab l, ai bl, rl.length⟩) :=
  bW.mk rl h1 h2 h3 (TN.rr hT hs) (SN.rr hσ hb)
theorem nm {na : Nat} (rl : List Nat) {s : S} {l : List (Nat × V)} {bl : List (Nat × bu)} (hT : TN (rn rl) rl.length s.T l) (hσ : SN (rn rl) rl.length s.σ bl) (h1 : rl.Nodup := by decide) (h2 : rl.take na = List.range na := by decide) (h3 : na ≤ rl.length := by decide) : bW na s ⟨tab l, ai bl, rl.length⟩ :=
  bW.mk rl h1 h2 h3 hT hσ
section
variable {P : Program} {T : Nat → V} {σ : aL} {n : Nat} {dst : Option Nat} {op : bF} {l : List bL} {K : S → Prop}
theorem q1 (v : V) {σ' : aL} {n' : Nat} (k : aQ P l ⟨bD T dst v, σ', n'⟩ K) (h : aI op (aF T) σ n = some (v, σ', n') := by exact rfl) : aQ P (⟨dst, op, none⟩ :: l) ⟨T, σ, n⟩ K := step h k
theorem qX (c : Bool) {g : Nat} {b : Bool} (hb : ¬ c = b) (k : aQ P l ⟨bD T dst V.skip, σ, n⟩ K) (hg : T g = .d (.bool c) := by exact rfl) : aQ P (⟨dst, op, some (g, b)⟩ :: l) ⟨T, σ, n⟩ K := tP hg hb k
theorem qG (c : Bool) {g : Nat} {b : Bool} (hb : c = b) (k : aQ P (⟨dst, op, none⟩ :: l) ⟨T, σ, n⟩ K) (hg : T g = .d (.bool c) := by exact rfl) : aQ P (⟨dst, op, some (g, b)⟩ :: l) ⟨T, σ, n⟩ K := tO hg hb k
end
theorem VN.lc {ρ : Nat → Nat} {n0 : Nat} (id : Nat) {off len : Nat} (h : id < n0 := by decide) : VN ρ n0 (.loc (ρ id) off len) (.loc id off len) := .loc id off len h
theorem VN.pt {ρ : Nat → Nat} {n0 : Nat} (id : Nat) {i j : Nat} (h : id < n0 := by decide) : VN ρ n0 (.ptr (ρ id) i j) (.ptr id i j) := .ptr id i j h
section
variable {P : Program} {T : Nat → V} {σ : aL} {n : Nat} {d d2 d3 d4 : Option Nat} {o o2 o3 o4 : bF} {l : List bL} {K : S → Prop} {v v2 v3 v4 : V} {σ' σ2 σ3 σ4 : aL} {n' n2 n3 n4 : Nat}
theorem q2 (k : aQ P l ⟨bD (bD T d v) d2 v2, σ2, n2⟩ K) (h : aI o (aF T) σ n = some (v, σ', n') := by exact rfl) (h2 : aI o2 (aF (bD T d v)) σ' n' = some (v2, σ2, n2) := by exact rfl) :
    aQ P (⟨d, o, none⟩ :: ⟨d2, o2, none⟩ :: l) ⟨T, σ, n⟩ K := step h (step h2 k)
theorem q3 (k : aQ P l ⟨bD (bD (bD T d v) d2 v2) d3 v3, σ3, n3⟩ K) (h : aI o (aF T) σ n = some (v, σ', n') := by exact rfl) (h2 : aI o2 (aF (bD T d v)) σ' n' = some (v2, σ2, n2) := by exact rfl)
    (h3 : aI o3 (aF (bD (bD T d v) d2 v2)) σ2 n2 = some (v3, σ3, n3) := by exact rfl) : aQ P (⟨d, o, none⟩ :: ⟨d2, o2, none⟩ :: ⟨d3, o3, none⟩ :: l) ⟨T, σ, n⟩ K := step h (step h2 (step h3 k))
theorem q4 (k : aQ P l ⟨bD (bD (bD (bD T d v) d2 v2) d3 v3) d4 v4, σ4, n4⟩ K) (h : aI o (aF T) σ n = some (v, σ', n') := by exact rfl) (h2 : aI o2 (aF (bD T d v)) σ' n' = some (v2, σ2, n2) := by exact rfl)
    (h3 : aI o3 (aF (bD (bD T d v) d2 v2)) σ2 n2 = some (v3, σ3, n3) := by exact rfl) (h4 : aI o4 (aF (bD (bD (bD T d v) d2 v2) d3 v3)) σ3 n3 = some (v4, σ4, n4) := by exact rfl) :
    aQ P (⟨d, o, none⟩ :: ⟨d2, o2, none⟩ :: ⟨d3, o3, none⟩ :: ⟨d4, o4, none⟩ :: l) ⟨T, σ, n⟩ K := step h (step h2 (step h3 (step h4 k)))
theorem qq (k : aQ P l ⟨bD T d v, σ', n'⟩ K) (h : aI o (aF T) σ n = some (v, σ', n') := by exact rfl) : aQ P (⟨d, o, none⟩ :: l) ⟨T, σ, n⟩ K := step h k
theorem gq {c b : Bool} {g : Nat} (hb : c = b) (k : aQ P l ⟨bD T d v, σ', n'⟩ K) (hg : T g = .d (.bool c) := by exact rfl) (h : aI o (aF T) σ n = some (v, σ', n') := by exact rfl) : aQ P (⟨d, o, some (g, b)⟩ :: l) ⟨T, σ, n⟩ K := tO hg hb (step h k)
theorem gX {c b : Bool} {g : Nat} (hb : ¬ c = b) (k : aQ P l ⟨bD T d V.skip, σ, n⟩ K) (hg : T g = .d (.bool c) := by exact rfl) : aQ P (⟨d, o, some (g, b)⟩ :: l) ⟨T, σ, n⟩ K := tP hg hb k
end
section
variable {P : Program} {N na : Nat} {T : Nat → V} {σ : aL} {n : Nat} {y : bC} {Q : Exit → S → Prop}
theorem aj {s : S} {d : Bool} {l : List bL} (h : aQ P l s fun s' => bG P N na y Q s') : bG P N na (.seq (.ops d l) y) Q s :=
  tN (aM.RunOps_mono l s (fun s' hs => ⟨s', bW.refl _, hs⟩) h)
def jL (T : Nat → V) : List (Nat × V) → Prop
  | [] => True
  | p :: l => T p.1 = p.2 ∧ jL T l
theorem jL.of {T : Nat → V} : ∀ {l : List (Nat × V)}, l.map (fun p => T p.1) = l.map (·.2) → jL T l
  | [], _ => trivial
  | p :: l, h => by
    simp only [List.map_cons, List.cons.injEq] at h
    exact ⟨h.1, jL.of h.2⟩
theorem bW.slots {na : Nat} {s : S} (l : List (Nat × V)) (h : jL s.T l) : bW na s ⟨tab l, s.σ, s.n⟩ := by
  intro N A μ a w ⟨hs, hfr⟩
  refine ⟨μ, ⟨⟨hs.size, hs.defers, fun i => ?_, hs.store⟩, hfr⟩, (bk.refl _ _ _).ng⟩
  have key : ∀ l : List (Nat × V), jL s.T l → tab l i = s.T i ∨ tab l i = V.undef := by
    intro l
    induction l with
    | nil => intro _; exact .inr rfl
    | cons p l ih =>
      intro h
      simp only [tab]
      by_cases c : i = p.1
      · rw [if_pos c, c]; exact .inl h.1.symm
      · rw [if_neg c]; exact ih h.2
  rcases key l h with e | e
  · show aR _ _ _ (tab l i) _
    rw [e]; exact hs.tmps i
  · show aR _ _ _ (tab l i) _
    rw [e]; exact .d _ _ (.undef _)
theorem nT (l : List (Nat × V)) (k : bG P N na y Q ⟨tab l, σ, n⟩) (h : l.map (fun p => T p.1) = l.map (·.2) := by exact rfl) : aQ P [] ⟨T, σ, n⟩ (fun s' => bG P N na y Q s') :=
  dV (s := ⟨T, σ, n⟩) (bW.slots l (jL.of h)) k
theorem nI (k : bG P N na y Q ⟨T, σ, n⟩) : aQ P [] ⟨T, σ, n⟩ (fun s' => bG P N na y Q s') := k
theorem nO {d : Bool} {l : List bL} (k : aQ P l ⟨T, σ, n⟩ fun s' => bG P N na y Q s') : aQ P [] ⟨T, σ, n⟩ (fun s' => bG P N na (.seq (.ops d l) y) Q s') := aj k
theorem b4 {s : S} (l : List (Nat × V)) (k : bG P N na y Q ⟨tab l, s.σ, s.n⟩) (h : l.map (fun p => s.T p.1) = l.map (·.2) := by exact rfl) : bG P N na y Q s :=
  dV (bW.slots l (jL.of h)) k
theorem bZ {s s0 : S} {d : Bool} {l : List bL} (k : Q .normal s0) (h : aQ P l s fun s' => bW na s' s0) : bG P N na (.ops d l) Q s := dP s0 h k
end
theorem sj {α : Type} {a b : α} (h : some a = some b) : a = b := bM h
theorem bf {b : Bool} (h : ¬ b = true) : b = false := Bool.eq_false_iff.2 h
theorem dn {p : Prop} [Decidable p] (h : ¬ p) : ¬ decide p = true := fun hq => h (of_decide_eq_true hq)
theorem dy {p : Prop} [Decidable p] (h : p) : decide p = true := decide_eq_true h
section
variable {P : Program} {n n' : Nat}
theorem PCall.inW [DfrOk P] {f : Nat} (af : bY) {ds : List D} {r : D} (h : bG P af.n 0 af.code (FQ af.res r) ⟨j9 (ds.map V.d), fun _ => none, 0⟩) (hc : j8 P f af = true := by kernel_rfl) (hl : Nat.ble ds.length af.n = true := by exact rfl) : PCall P f ds r :=
  PCall.introN hc (Nat.le_of_ble_eq_true hl) h
theorem dp.inW [DfrOk P] {f : Nat} (af : bY) {vals : List V} {bl bl' : List (Nat × bu)} {v : V} (h : bG P af.n n af.code (SQ af.res v bl' n') ⟨j9 vals, ai bl, n⟩) (hc : j8 P f af = true := by kernel_rfl) (hl : Nat.ble vals.length af.n = true := by exact rfl)
    (hdom : bl.map (·.1) = List.range n := by exact rfl) : dp P f vals (ai bl) n v (ai bl') n' :=
  dp.introN hc (Nat.le_of_ble_eq_true hl) hdom h
end
end Go.AM
