import Derived.Test.YtnnkfanmokeiaaaAmPv
set_option linter.unusedVariables false
set_option linter.unusedSectionVars false
namespace Go.AM
open Go Go.RowKit
variable [Glob]
@[reducible] def vi (x : Int) : V := .d (.int .i64 x)
@[reducible] def vh (x : Int) : V := .d (.int .u16 x)
@[reducible] def v8 (x : Int) : V := .d (.int .u8 x)
@[reducible] def oo (n : Nat) (op : bw) : bG := ⟨some n, op, none⟩
@[reducible] def ci (n : Int) : AX := .c (.int .i64 n)
@[reducible] def vb (x : Bool) : V := .d (.bool x)
@[reducible] def mv (a b : Nat) : bG := ⟨some a, .mov (.t b), none⟩
@[reducible] def ld (a b : Nat) : bG := ⟨some a, .load none (.t b), none⟩
@[reducible] def li (a b : Nat) : bG := ⟨some a, .ldI none (.t b), none⟩
@[reducible] def ia (a b c : Nat) : bG := ⟨some a, .iaddr none (.t b) (.t c), none⟩
@[reducible] def ln (a b : Nat) : bG := ⟨some a, .len (.t b), none⟩
@[reducible] def fa (a k b : Nat) : bG := ⟨some a, .faddr k (.t b), none⟩
@[reducible] def bi (a : Nat) (o : BinOp) (b c : Nat) : bG := ⟨some a, .bin o (.t b) (.t c), none⟩
@[reducible] def bc (a : Nat) (o : BinOp) (b : Nat) (n : Int) : bG := ⟨some a, .bin o (.t b) (.c (.int .i64 n)), none⟩
@[reducible] def so (l : List bG) (y : bC) : bC := .seq (.ops false l) y
def V.flat (n0 : Nat) : V → Bool
  | .d _ => true
  | .loc id _ _ => decide (id < n0)
  | .ptr id _ _ => decide (id < n0)
  | .mref id => decide (id < n0)
  | _ => false
def V.rn0 (ρ : Nat → Nat) : V → V
  | .loc id o l => .loc (ρ id) o l
  | .ptr id i j => .ptr (ρ id) i j
  | .mref id => .mref (ρ id)
  | v => v
def V.simple (n0 : Nat) : V → Bool
  | .d _ => true
  | .loc id _ _ => decide (id < n0)
  | .ptr id _ _ => decide (id < n0)
  | .mref id => decide (id < n0)
  | .func _ cs => cs.all (V.flat n0)
  | _ => false
def V.rn1 (ρ : Nat → Nat) : V → V
  | .loc id o l => .loc (ρ id) o l
  | .ptr id i j => .ptr (ρ id) i j
  | .mref id => .mref (ρ id)
  | .func f cs => .func f (cs.map (V.rn0 ρ))
  | v => v
theorem BP {ρ : Nat → Nat} {n0 : Nat} {y : V} (hs : y.flat n0 = true) : VN ρ n0 (y.rn0 ρ) y := by
  cases y <;> simp [V.flat] at hs
  case d x => exact .d x
  case loc id o l => exact .loc id o l hs
  case ptr id i j => exact .ptr id i j hs
  case mref id => exact .mref id hs
theorem VN.rr {ρ : Nat → Nat} {n0 : Nat} {x y : V} (h : x = y.rn1 ρ) (hs : y.simple n0 = true) : VN ρ n0 x y := by
  subst h
  cases y <;> simp [V.simple] at hs
  case d x => exact .d x
  case loc id o l => exact .loc id o l hs
  case ptr id i j => exact .ptr id i j hs
  case mref id => exact .mref id hs
  case func f cs =>
    refine .func f _ _ (by simp) fun i a b ha hb => ?_
    rw [List.getElem?_map, hb] at ha
    cases bK ha
    exact BP (hs b (c9 hb))
theorem TN.rr {ρ : Nat → Nat} {n0 : Nat} {T : Nat → V} : ∀ {l : List (Nat × V)}, l.map (fun p => T p.1) = l.map (fun p => p.2.rn1 ρ) → l.all (fun p => p.2.simple n0) = true → TN ρ n0 T l
  | [], _, _ => trivial
  | p :: l, h, hs => by
    simp only [List.map_cons, List.cons.injEq, List.all_cons, Bool.and_eq_true] at h hs
    exact ⟨.rr h.1 hs.1, TN.rr h.2 hs.2⟩
def bh.simple (n0 : Nat) : bh → Bool
  | .lst _ _ _ => true
  | .mp _ => true
  | .var cs => cs.all (V.simple n0)
def bh.rn1 (ρ : Nat → Nat) : bh → bh
  | .var cs => .var (cs.map (V.rn1 ρ))
  | b => b
theorem dl.rr {ρ : Nat → Nat} {n0 : Nat} : ∀ {l : List V}, l.all (V.simple n0) = true → dl ρ n0 (l.map (V.rn1 ρ)) l
  | [], _ => trivial
  | x :: l, h => by
    simp only [List.all_cons, Bool.and_eq_true] at h
    exact ⟨.rr rfl h.1, dl.rr h.2⟩
theorem SN.rr {ρ : Nat → Nat} {n0 : Nat} {σ : aH} : ∀ {l : List (Nat × bh)}, l.map (fun p => σ (ρ p.1)) = l.map (fun p => some (p.2.rn1 ρ)) → l.all (fun p => decide (p.1 < n0) && p.2.simple n0) = true → SN ρ n0 σ l
  | [], _, _ => trivial
  | p :: l, h, hs => by
    simp only [List.map_cons, List.cons.injEq, List.all_cons, Bool.and_eq_true, decide_eq_true_eq] at h hs
    refine ⟨⟨hs.1.1, _, h.1, ?_⟩, SN.rr h.2 hs.2⟩
    cases hp : p.2 with
    | lst m k els => exact .lst _ _ _
    | mp es => exact .mp _
    | var cs =>
      have := hs.1.2
      rw [hp] at this
      exact .vars (dl.rr this)
theorem nr {na : Nat} (rl : List Nat) {s : S} {l : List (Nat × V)} {bl : List (Nat × bh)} (h1 : rl.Nodup := by decide) (h2 : rl.take na = List.range na := by decide) (h3 : na ≤ rl.length := by decide)
    (hT : l.map (fun p => s.T p.1) = l.map (fun p => p.2.rn1 (rn rl)) := by exact rfl) (hs : l.all (fun p => p.2.simple rl.length) = true := by exact rfl)
    (hσ : bl.map (fun p => s.σ (rn rl p.1)) = bl.map (fun p => some (p.2.rn1 (rn rl))) := by exact rfl) (hb : bl.all (fun p => decide (p.1 < rl.length) && p.2.simple rl.length) = true := by exact rfl) : bP na s ⟨tab l, ai bl, rl.length⟩ :=
  bP.mk rl h1 h2 h3 (TN.rr hT hs) (SN.rr hσ hb)
theorem nR {P : Program} {na : Nat} (rl : List Nat) {s : S} {l : List (Nat × V)} {bl : List (Nat × bh)} (h1 : rl.Nodup := by decide) (h2 : rl.take na = List.range na := by decide) (h3 : na ≤ rl.length := by decide)
    (hT : l.map (fun p => s.T p.1) = l.map (fun p => p.2.rn1 (rn rl)) := by exact rfl) (hs : l.all (fun p => p.2.simple rl.length) = true := by exact rfl)
    (hσ : bl.map (fun p => s.σ (rn rl p.1)) = bl.map (fun p => some (p.2.rn1 (rn rl))) := by exact rfl) (hb : bl.all (fun p => decide (p.1 < rl.length) && p.2.simple rl.length) = true := by exact rfl) : aO P [] s (fun s' => bP na s' ⟨tab l, ai bl, rl.length⟩) :=
  bP.mk rl h1 h2 h3 (TN.rr hT hs) (SN.rr hσ hb)
theorem nm {na : Nat} (rl : List Nat) {s : S} {l : List (Nat × V)} {bl : List (Nat × bh)} (hT : TN (rn rl) rl.length s.T l) (hσ : SN (rn rl) rl.length s.σ bl) (h1 : rl.Nodup := by decide) (h2 : rl.take na = List.range na := by decide) (h3 : na ≤ rl.length := by decide) : bP na s ⟨tab l, ai bl, rl.length⟩ :=
  bP.mk rl h1 h2 h3 hT hσ
section
variable {P : Program} {T : Nat → V} {σ : aH} {n : Nat} {dst : Option Nat} {op : bw} {l : List bG} {K : S → Prop}
theorem q1 (v : V) {σ' : aH} {n' : Nat} (k : aO P l ⟨bu T dst v, σ', n'⟩ K) (h : aD op (aC T) σ n = some (v, σ', n') := by exact rfl) : aO P (⟨dst, op, none⟩ :: l) ⟨T, σ, n⟩ K := step h k
theorem qX (c : Bool) {g : Nat} {b : Bool} (hb : ¬ c = b) (k : aO P l ⟨bu T dst V.skip, σ, n⟩ K) (hg : T g = .d (.bool c) := by exact rfl) : aO P (⟨dst, op, some (g, b)⟩ :: l) ⟨T, σ, n⟩ K := tC hg hb k
theorem qG (c : Bool) {g : Nat} {b : Bool} (hb : c = b) (k : aO P (⟨dst, op, none⟩ :: l) ⟨T, σ, n⟩ K) (hg : T g = .d (.bool c) := by exact rfl) : aO P (⟨dst, op, some (g, b)⟩ :: l) ⟨T, σ, n⟩ K := tB hg hb k
end
theorem VN.lc {ρ : Nat → Nat} {n0 : Nat} (id : Nat) {off len : Nat} (h : id < n0 := by decide) : VN ρ n0 (.loc (ρ id) off len) (.loc id off len) := .loc id off len h
theorem VN.pt {ρ : Nat → Nat} {n0 : Nat} (id : Nat) {i j : Nat} (h : id < n0 := by decide) : VN ρ n0 (.ptr (ρ id) i j) (.ptr id i j) := .ptr id i j h
section
variable {P : Program} {T : Nat → V} {σ : aH} {n : Nat} {d d2 d3 d4 : Option Nat} {o o2 o3 o4 : bw} {l : List bG} {K : S → Prop} {v v2 v3 v4 : V} {σ' σ2 σ3 σ4 : aH} {n' n2 n3 n4 : Nat}
theorem q2 (k : aO P l ⟨bu (bu T d v) d2 v2, σ2, n2⟩ K) (h : aD o (aC T) σ n = some (v, σ', n') := by exact rfl) (h2 : aD o2 (aC (bu T d v)) σ' n' = some (v2, σ2, n2) := by exact rfl) :
    aO P (⟨d, o, none⟩ :: ⟨d2, o2, none⟩ :: l) ⟨T, σ, n⟩ K := step h (step h2 k)
theorem q3 (k : aO P l ⟨bu (bu (bu T d v) d2 v2) d3 v3, σ3, n3⟩ K) (h : aD o (aC T) σ n = some (v, σ', n') := by exact rfl) (h2 : aD o2 (aC (bu T d v)) σ' n' = some (v2, σ2, n2) := by exact rfl)
    (h3 : aD o3 (aC (bu (bu T d v) d2 v2)) σ2 n2 = some (v3, σ3, n3) := by exact rfl) : aO P (⟨d, o, none⟩ :: ⟨d2, o2, none⟩ :: ⟨d3, o3, none⟩ :: l) ⟨T, σ, n⟩ K := step h (step h2 (step h3 k))
theorem q4 (k : aO P l ⟨bu (bu (bu (bu T d v) d2 v2) d3 v3) d4 v4, σ4, n4⟩ K) (h : aD o (aC T) σ n = some (v, σ', n') := by exact rfl) (h2 : aD o2 (aC (bu T d v)) σ' n' = some (v2, σ2, n2) := by exact rfl)
    (h3 : aD o3 (aC (bu (bu T d v) d2 v2)) σ2 n2 = some (v3, σ3, n3) := by exact rfl) (h4 : aD o4 (aC (bu (bu (bu T d v) d2 v2) d3 v3)) σ3 n3 = some (v4, σ4, n4) := by exact rfl) :
    aO P (⟨d, o, none⟩ :: ⟨d2, o2, none⟩ :: ⟨d3, o3, none⟩ :: ⟨d4, o4, none⟩ :: l) ⟨T, σ, n⟩ K := step h (step h2 (step h3 (step h4 k)))
theorem qq (k : aO P l ⟨bu T d v, σ', n'⟩ K) (h : aD o (aC T) σ n = some (v, σ', n') := by exact rfl) : aO P (⟨d, o, none⟩ :: l) ⟨T, σ, n⟩ K := step h k
theorem gq {c b : Bool} {g : Nat} (hb : c = b) (k : aO P l ⟨bu T d v, σ', n'⟩ K) (hg : T g = .d (.bool c) := by exact rfl) (h : aD o (aC T) σ n = some (v, σ', n') := by exact rfl) : aO P (⟨d, o, some (g, b)⟩ :: l) ⟨T, σ, n⟩ K := tB hg hb (step h k)
theorem gX {c b : Bool} {g : Nat} (hb : ¬ c = b) (k : aO P l ⟨bu T d V.skip, σ, n⟩ K) (hg : T g = .d (.bool c) := by exact rfl) : aO P (⟨d, o, some (g, b)⟩ :: l) ⟨T, σ, n⟩ K := tC hg hb k
end
section
variable {P : Program} {N na : Nat} {T : Nat → V} {σ : aH} {n : Nat} {y : bC} {Q : Exit → S → Prop}
theorem al {s : S} {d : Bool} {l : List bG} (h : aO P l s fun s' => bD P N na y Q s') : bD P N na (.seq (.ops d l) y) Q s :=
  tA (aI.RunOps_mono l s (fun s' hs => ⟨s', bP.refl _, hs⟩) h)
def jv (T : Nat → V) : List (Nat × V) → Prop
  | [] => True
  | p :: l => T p.1 = p.2 ∧ jv T l
theorem jv.of {T : Nat → V} : ∀ {l : List (Nat × V)}, l.map (fun p => T p.1) = l.map (·.2) → jv T l
  | [], _ => trivial
  | p :: l, h => by
    simp only [List.map_cons, List.cons.injEq] at h
    exact ⟨h.1, jv.of h.2⟩
theorem bP.slots {na : Nat} {s : S} (l : List (Nat × V)) (h : jv s.T l) : bP na s ⟨tab l, s.σ, s.n⟩ := by
  intro N A μ a w ⟨hs, hfr⟩
  refine ⟨μ, ⟨⟨hs.size, hs.defers, fun i => ?_, hs.store⟩, hfr⟩, (aV.refl _ _ _).ng⟩
  have key : ∀ l : List (Nat × V), jv s.T l → tab l i = s.T i ∨ tab l i = V.undef := by
    intro l
    induction l with
    | nil => intro _; exact .inr rfl
    | cons p l ih =>
      intro h
      simp only [tab]
      by_cases c : i = p.1
      · rw [if_pos c, c]; exact .inl h.1.symm
      · rw [if_neg c]; exact ih h.2
  rcases key l h with e | e
  · show aJ _ _ _ (tab l i) _
    rw [e]; exact hs.tmps i
  · show aJ _ _ _ (tab l i) _
    rw [e]; exact .d _ _ (.undef _)
theorem nT (l : List (Nat × V)) (k : bD P N na y Q ⟨tab l, σ, n⟩) (h : l.map (fun p => T p.1) = l.map (·.2) := by exact rfl) : aO P [] ⟨T, σ, n⟩ (fun s' => bD P N na y Q s') :=
  d7 (s := ⟨T, σ, n⟩) (bP.slots l (jv.of h)) k
theorem nI (k : bD P N na y Q ⟨T, σ, n⟩) : aO P [] ⟨T, σ, n⟩ (fun s' => bD P N na y Q s') := k
theorem nO {d : Bool} {l : List bG} (k : aO P l ⟨T, σ, n⟩ fun s' => bD P N na y Q s') : aO P [] ⟨T, σ, n⟩ (fun s' => bD P N na (.seq (.ops d l) y) Q s') := al k
theorem b8 {s : S} (l : List (Nat × V)) (k : bD P N na y Q ⟨tab l, s.σ, s.n⟩) (h : l.map (fun p => s.T p.1) = l.map (·.2) := by exact rfl) : bD P N na y Q s :=
  d7 (bP.slots l (jv.of h)) k
theorem b9 {s s0 : S} {d : Bool} {l : List bG} (k : Q .normal s0) (h : aO P l s fun s' => bP na s' s0) : bD P N na (.ops d l) Q s := dL s0 h k
end
theorem sj {α : Type} {a b : α} (h : some a = some b) : a = b := bK h
theorem bf {b : Bool} (h : ¬ b = true) : b = false := Bool.eq_false_iff.2 h
theorem dn {p : Prop} [Decidable p] (h : ¬ p) : ¬ decide p = true := fun hq => h (of_decide_eq_true hq)
theorem dy {p : Prop} [Decidable p] (h : p) : decide p = true := decide_eq_true h
section
variable {P : Program} {n n' : Nat}
theorem PCall.inW [DfrOk P] {f : Nat} (af : bR) {ds : List D} {r : D} (h : bD P af.n 0 af.code (FQ af.res r) ⟨jQ (ds.map V.d), fun _ => none, 0⟩) (hc : jP P f af = true := by kernel_rfl) (hl : Nat.ble ds.length af.n = true := by exact rfl) : PCall P f ds r :=
  PCall.introN hc (Nat.le_of_ble_eq_true hl) h
theorem dg.inW [DfrOk P] {f : Nat} (af : bR) {vals : List V} {bl bl' : List (Nat × bh)} {v : V} (h : bD P af.n n af.code (SQ af.res v bl' n') ⟨jQ vals, ai bl, n⟩) (hc : jP P f af = true := by kernel_rfl) (hl : Nat.ble vals.length af.n = true := by exact rfl)
    (hdom : bl.map (·.1) = List.range n := by exact rfl) : dg P f vals (ai bl) n v (ai bl') n' :=
  dg.introN hc (Nat.le_of_ble_eq_true hl) hdom h
end
end Go.AM
