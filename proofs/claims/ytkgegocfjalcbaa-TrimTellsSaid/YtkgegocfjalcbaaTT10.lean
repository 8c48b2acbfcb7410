import Derived.Test.YtkgegocfjalcbaaTT5
/-
  The document's rules, one at a time.
-/
set_option linter.unusedVariables false
set_option linter.unusedSimpArgs false
namespace Go.AM
open Go

theorem runS_map {α β γ : Type} (g : β → γ) (step : List α → α → List α → Option β) : ∀ (suf pre : List α), runS (fun pre x r => (step pre x r).map g) pre suf = (runS step pre suf).map g
  | [], pre => rfl
  | x :: r, pre => by
    simp only [runS]
    cases step pre x r with
    | some b => rfl
    | none => exact runS_map g step r (pre ++ [x])

theorem s_cut {l pre r : List api_Pol} {x : api_Pol} (e : l = pre ++ x :: r) (hl : l.length ≤ BIG) : ref28_cut l (pre.length : Int) = some (pre ++ r) := by
  unfold BIG at hl
  have hlen : l.length = pre.length + (r.length + 1) := by rw [e]; simp
  have g1 : gcut l 0 (pre.length : Int) = some pre := by
    unfold gcut; rw [if_pos (by omega), e]; simp
  have g2 : gcut l ((pre.length + 1 : Nat) : Int) (l.length : Int) = some r := by
    unfold gcut; rw [if_pos (by omega)]
    simp only [Int.toNat_natCast]
    rw [show l.drop (pre.length + 1) = r by rw [e]; simp, List.take_of_length_le (by omega)]
  unfold ref28_cut
  rw [g1, Option.bind_some, gapp_some (by simp; omega), Option.bind_some, w_i64 (by omega) (by omega), show (pre.length : Int) + 1 = ((pre.length + 1 : Nat) : Int) by push_cast; rfl, g2, Option.bind_some, gapp_some (by simp; omega)]
  rfl

theorem s_pair {a b : api_Pol} {ask : Bool} (h : ((a.Op == 2 || a.Op == 3) && a.Op == b.Op) = ask) : ref28_pair a b = some (nb a b ask) := by
  unfold ref28_pair nb
  simp only [h]
  have hc : (if (a.Op == 2) then ((a.Op == b.Op) && (a.F == b.F)) else ((a.Op == 3) && ((a.Op == b.Op) && (a.F == b.F)))) = (ask && (a.F == b.F)) := by
    rw [← h]
    by_cases c : a.Op = 2
    · simp [c]
    · by_cases c3 : a.Op = 3
      · simp [c3]
      · rw [show (a.Op == 2) = false by simpa using c, show (a.Op == 3) = false by simpa using c3]; rfl
  rw [hc]
  by_cases cF : a.F = b.F
  · cases ask with
    | true => by_cases cN : a.N = b.N <;> simp [cF, cN]
    | false =>
      simp only [cF, beq_self_eq_true, Bool.and_true, Bool.false_and, Bool.false_eq_true, if_false, bne_self_eq_false, ne_eq, not_true_eq_false, or_self]
      by_cases c5 : a.Op = 5
      · by_cases d5 : b.Op = 5
        · simp [c5, d5]
        · by_cases d2 : b.Op = 2
          · by_cases cN : a.N = b.N <;> simp [c5, d2, cN]
          · simp [c5, d5, d2]
      · by_cases c2 : a.Op = 2
        · by_cases d5 : b.Op = 5
          · by_cases cN : a.N = b.N <;> simp [c2, d5, cN]
          · simp [c2, d5]
        · simp [c5, c2]
  · have : (a.F == b.F) = false := by simpa using cF
    have t2 : (a.F != b.F) = true := by simpa using cF
    simp [cF, this, t2]

def with_ (p : api_Pol) (l : List api_Pol) : api_Pol := ⟨p.Op, p.F, p.N, l⟩

abbrev Ans := Unit ⊕ (api_Pol × Bool)
def yes (q : api_Pol) : Ans := Sum.inr (q, true)

def f1 (p : api_Pol) : Option api_Pol := runS (fun pre x r => if x.Op = p.Op then some (with_ p (pre ++ x.Kids ++ r)) else none) [] p.Kids
def f2 (p : api_Pol) : Option api_Pol := runS (fun pre x r => if (p.Op = 7 ∧ x.Op = 0) ∨ (p.Op = 6 ∧ x.Op = 1) then some (with_ p (pre ++ r)) else none) [] p.Kids
def f3 (p : api_Pol) : Option api_Pol := if p.Kids.any (fun x => x.Op == 0) then some dropP else none
noncomputable def f4 (p : api_Pol) : Option api_Pol := runS (fun pre x r => if x ∈ pre then some (with_ p (pre ++ r)) else none) [] p.Kids
def ans5 (p : api_Pol) : Option (List api_Pol) → api_Pol
  | none => dropP
  | some l => with_ p l
def f5 (p : api_Pol) : Option api_Pol := (step2 p.Kids).map (ans5 p)
def f6 (p : api_Pol) : Option api_Pol := if p.Kids.all ppred && p.Kids.any (fun x => x.Op == 1) then some idP else none
def f7 (p : api_Pol) : Option api_Pol := match p.Kids with | [] => some ⟨7 - p.Op, 0, 0, []⟩ | [x] => some x | _ => none
def f8 (p : api_Pol) : Option api_Pol := match p.Kids with | [k] => if k.Op < 2 then some ⟨1 - k.Op, 0, 0, []⟩ else if k.Op = 4 then k.Kids.head? else none | _ => none

noncomputable def onceS (p : api_Pol) : Option api_Pol :=
  if p.Op = 6 ∨ p.Op = 7 then
    match f1 p with
    | some q => some q
    | none => match f2 p with
      | some q => some q
      | none => match (if p.Op = 6 then f3 p else f4 p) with
        | some q => some q
        | none => match (if p.Op = 6 then f5 p else f6 p) with
          | some q => some q
          | none => f7 p
  else if p.Op = 4 then f8 p else none

theorem s_b1 (p : api_Pol) (h : psize p ≤ BIG) : forR (ref28_once_b1 p) (irange 0 (p.Kids.length : Int)) () = some (exOf ((f1 p).map yes)) := by
  unfold f1
  rw [← runS_map]
  refine forR_split0 _ _ _ fun pre x r e => ?_
  have hs := psize_eq p
  have hl := len_psizeL p.Kids
  have hx := psizeL_mem (mem_pre e)
  have hxs := psize_eq x
  have hxl := len_psizeL x.Kids
  have hlen : p.Kids.length = pre.length + (r.length + 1) := by rw [e]; simp
  have hsz : psizeL p.Kids = psizeL pre + (psize x + psizeL r) := by rw [e, psizeL_app, psizeL]
  have hpl := len_psizeL pre
  have hrl := len_psizeL r
  unfold BIG at h
  simp only [ref28_once_b1, gat_pre e, Option.bind_some]
  by_cases c : x.Op = p.Op
  · have g1 : gcut p.Kids 0 (pre.length : Int) = some pre := by
      unfold gcut; rw [if_pos (by omega), e]; simp
    have g2 : gcut p.Kids ((pre.length : Int) + 1) (p.Kids.length : Int) = some r := by
      rw [show (pre.length : Int) + 1 = ((pre.length + 1 : Nat) : Int) by push_cast; rfl]
      unfold gcut; rw [if_pos (by omega)]
      simp only [Int.toNat_natCast]
      rw [show p.Kids.drop (pre.length + 1) = r by rw [e]; simp, List.take_of_length_le (by omega)]
    rw [show (x.Op == p.Op) = true by simpa using c, if_pos rfl, g1, Option.bind_some, gapp_some (by simp; omega), Option.bind_some, gapp_some (by simp; omega), Option.bind_some, g2, Option.bind_some, gapp_some (by simp; omega)]
    simp [c, brOf, yes, with_]
  · rw [show (x.Op == p.Op) = false by simpa using c]
    simp [c, brOf]

theorem s_b2 (p : api_Pol) (h : psize p ≤ BIG) : forR (ref28_once_b2 p) (irange 0 (p.Kids.length : Int)) () = some (exOf ((f2 p).map yes)) := by
  unfold f2
  rw [← runS_map]
  refine forR_split0 _ _ _ fun pre x r e => ?_
  have hs := psize_eq p
  have hl := len_psizeL p.Kids
  have hct := s_cut e (by omega)
  simp only [ref28_once_b2, gat_pre e, Option.bind_some, hct]
  by_cases c7 : p.Op = 7
  · by_cases c0 : x.Op = 0
    · simp [c7, c0, brOf, yes, with_]
    · simp [c7, c0, brOf]
  · by_cases c6 : p.Op = 6
    · by_cases c1 : x.Op = 1
      · simp [c6, c1, brOf, yes, with_]
      · simp [c6, c1, brOf]
    · simp [c7, c6, brOf]

theorem s_b3 (p : api_Pol) : forR (ref28_once_b3 p) (irange 0 (p.Kids.length : Int)) () = some (exOf ((f3 p).map yes)) := by
  have : (f3 p).map yes = if p.Kids.any (fun x => x.Op == 0) then some (yes dropP) else none := by unfold f3; split <;> rfl
  rw [this, ← runS_any (fun x : api_Pol => x.Op == 0) (yes dropP) p.Kids []]
  refine forR_split0 _ _ _ fun pre x r e => ?_
  simp only [ref28_once_b3, gat_pre e, Option.bind_some]
  by_cases c : x.Op = 0
  · simp [c, brOf, yes, dropP]
  · simp [c, brOf]

theorem s_b4 (p : api_Pol) (h : psize p ≤ BIG) : forR (ref28_once_b4 p) (irange 0 (p.Kids.length : Int)) () = some (exOf ((f4 p).map yes)) := by
  unfold f4
  rw [← runS_map]
  refine forR_split0 _ _ _ fun pre x r e => ?_
  have hs := psize_eq p
  have hl := len_psizeL p.Kids
  have hx := psizeL_mem (mem_pre e)
  have hct := s_cut e (by omega)
  have inner := forR_run0 (ref28_once_b5 p (pre.length : Int)) (fun y : api_Pol => if decide (x = y) then some (Br.ret (yes (with_ p (pre ++ r))) : Br Unit Ans) else none) pre (fun j y hy => by
    have hj : j < pre.length := (List.getElem?_eq_some_iff.1 hy).1
    have hy' : p.Kids[j]? = some y := by rw [e, List.getElem?_append_left hj]; exact hy
    simp only [ref28_once_b5, gat_pre e, gat_nat, hy', Option.bind_some]
    rw [r_same y (by omega)]
    simp only [Option.bind_some, hct]
    by_cases c : x = y
    · simp [c, brOf, yes, with_]
    · simp [c, brOf])
  rw [runL_any] at inner
  simp only [ref28_once_b4, inner, Option.bind_some]
  by_cases c : x ∈ pre
  · have : (pre.any fun y => decide (x = y)) = true := List.any_eq_true.2 ⟨x, c, by simp⟩
    simp [c, this, brOf, exOf]
  · have : (pre.any fun y => decide (x = y)) = false := by
      rw [Bool.eq_false_iff]; intro hc
      obtain ⟨y, hy, he⟩ := List.any_eq_true.1 hc
      simp at he; subst he; exact c hy
    simp [c, this, brOf, exOf]

def ansC (p : api_Pol) : Option (List api_Pol) → Ans
  | none => yes dropP
  | some l => yes (with_ p l)

theorem s_b7 (p : api_Pol) (rule : Int) (ask : Bool) (hr : (rule == 5) = ask) (h : psize p ≤ BIG) : ∀ (suf pre : List api_Pol) (m : Nat), p.Kids = pre ++ suf →
    match clo ask suf with
    | none => ∃ z, whR (ref28_once_b7 p rule) (m + suf.length + 1) (pre.length : Int) = some (.done z)
    | some o => whR (ref28_once_b7 p rule) (m + suf.length + 1) (pre.length : Int) = some (.ret (Br.ret (ansC p (o.map (pre ++ ·))))) := by
  have hs := psize_eq p
  have hl := len_psizeL p.Kids
  have hB : BIG = 100000 := rfl
  have stop : ∀ (suf pre : List api_Pol) (m : Nat), p.Kids = pre ++ suf → suf.length ≤ 1 → ∃ z, whR (ref28_once_b7 p rule) (m + suf.length + 1) (pre.length : Int) = some (.done z) := by
    intro suf pre m e hsl
    have hlen : p.Kids.length = pre.length + suf.length := by rw [e]; simp
    rw [whR_step]
    simp only [ref28_once_b7]
    rw [w_i64 (by omega) (by omega), decide_eq_false (by omega)]
    exact ⟨_, rfl⟩
  intro suf
  induction suf with
  | nil => intro pre m e; exact stop [] pre m e (by simp)
  | cons x suf ih =>
    intro pre m e
    cases suf with
    | nil => exact stop [x] pre m e (by simp)
    | cons y r =>
      have hlen : p.Kids.length = pre.length + (r.length + 2) := by rw [e]; simp
      have hgy : gat p.Kids ((pre.length : Int) + 1) = some y := by
        have := gat_pre (l := p.Kids) (pre := pre ++ [x]) (r := r) (x := y) (by rw [e]; simp)
        simpa using this
      have c1 := s_cut e (by omega)
      have c2 : ref28_cut p.Kids ((pre.length : Int) + 1) = some (pre ++ x :: r) := by
        have := s_cut (l := p.Kids) (pre := pre ++ [x]) (r := r) (x := y) (by rw [e]; simp) (by omega)
        simpa using this
      have ih' := ih (pre ++ [x]) m (by rw [e]; simp)
      have hw : IntKind.i64.wrap ((pre.length : Int) + 1) = (pre.length : Int) + 1 := w_i64 (by omega) (by omega)
      have hstep : ref28_once_b7 p rule (pre.length : Int) = some (if nb x y ask = 1 then Br.ret (Br.ret (ansC p (some (pre ++ y :: r)))) else if nb x y ask = 2 then Br.ret (Br.ret (ansC p (some (pre ++ x :: r)))) else if nb x y ask = 3 then Br.ret (Br.ret (ansC p none)) else Br.next ((pre.length : Int) + 1)) := by
        simp only [ref28_once_b7]
        rw [hw, decide_eq_true (by omega), if_pos rfl]
        simp only [gat_pre e, hgy, Option.bind_some, hr, c1, c2]
        generalize hB2 : ((x.Op == 2 || x.Op == 3) && x.Op == y.Op) = both
        have hy79 : (if (x.Op == 2) then some (x.Op == y.Op) else (if (x.Op == 3) then some (x.Op == y.Op) else some false)) = some both := by
          rw [← hB2]
          by_cases a2 : x.Op = 2
          · simp [a2]
          · by_cases a3 : x.Op = 3
            · simp [a3]
            · simp [a2, a3]
        rw [hy79]
        simp only [Option.bind_some]
        by_cases ca : both = ask
        · subst ca
          rw [s_pair hB2]
          simp only [beq_self_eq_true, Bool.not_true, Bool.false_eq_true, if_false, Option.bind_some]
          by_cases d1 : nb x y both = 1
          · simp [d1, ansC, yes, with_]
          · by_cases d2 : nb x y both = 2
            · simp [d2, ansC, yes, with_]
            · by_cases d3 : nb x y both = 3
              · simp [d3, ansC, yes, dropP]
              · simp [d1, d2, d3]
        · have hn : nb x y ask = 0 := by unfold nb; simp only [hB2]; rw [if_pos (.inl ca)]
          have : (both == ask) = false := by simpa using ca
          simp [this, hn]
      rw [show m + (x :: y :: r).length + 1 = (m + (y :: r).length + 1) + 1 by simp; omega, whR_step, hstep]
      simp only [Option.bind_some, clo]
      by_cases d1 : nb x y ask = 1
      · simp [d1]
      · by_cases d2 : nb x y ask = 2
        · simp [d2]
        · by_cases d3 : nb x y ask = 3
          · simp [d3]
          · rw [if_neg d1, if_neg d2, if_neg d3, if_neg d1, if_neg d2, if_neg d3]
            simp only [List.length_append, List.length_singleton] at ih'
            rw [show ((pre.length + 1 : Nat) : Int) = (pre.length : Int) + 1 by push_cast; rfl] at ih'
            cases hc : clo ask (y :: r) with
            | none => rw [hc] at ih'; exact ih'
            | some o =>
              rw [hc] at ih'
              simp only [Option.map_some]
              rw [ih']
              cases o with
              | none => rfl
              | some l => simp

theorem s_b6 (p : api_Pol) (h : psize p ≤ BIG) : ∃ z, whR (ref28_once_b6 p) FUEL 5 = some (match f5 p with | some q => .ret (yes q) | none => .done z) := by
  have hs := psize_eq p
  have hl := len_psizeL p.Kids
  have hB : BIG = 100000 := rfl
  obtain ⟨m, hm⟩ := FUEL_big (p.Kids.length + 1) (by omega)
  obtain ⟨m3, hm3⟩ := FUEL_big 3 (by omega)
  have a := s_b7 p 5 true (by decide) h p.Kids [] m rfl
  have b := s_b7 p 6 false (by decide) h p.Kids [] m rfl
  rw [show m + p.Kids.length + 1 = FUEL by omega] at a b
  simp only [List.length_nil, List.nil_append] at a b
  rw [show ((0 : Nat) : Int) = 0 from rfl] at a b
  have hs5 : ref28_once_b6 p 5 = (whR (ref28_once_b7 p 5) FUEL 0).bind fun q91 => match q91 with | .ret r => some r | .done z90 => some (.next 6) := rfl
  have hs6 : ref28_once_b6 p 6 = (whR (ref28_once_b7 p 6) FUEL 0).bind fun q91 => match q91 with | .ret r => some r | .done z90 => some (.next 7) := rfl
  have hs7 : ref28_once_b6 p 7 = some (.brk 7) := rfl
  rw [hm3, whR_step, hs5]
  have idm : ∀ o : Option (List api_Pol), ansC p (o.map fun x => x) = ansC p o := fun o => by cases o <;> rfl
  cases ha : clo true p.Kids with
  | some o =>
    rw [ha] at a
    simp only [] at a
    rw [a]
    refine ⟨0, ?_⟩
    have : f5 p = some (ans5 p o) := by unfold f5 step2; rw [ha]; rfl
    rw [this]
    cases o <;> rfl
  | none =>
    rw [ha] at a
    obtain ⟨z, hz⟩ := a
    rw [hz]
    simp only [Option.bind_some]
    rw [whR_step, hs6]
    cases hb : clo false p.Kids with
    | some o =>
      rw [hb] at b
      simp only [] at b
      rw [b]
      refine ⟨0, ?_⟩
      have : f5 p = some (ans5 p o) := by unfold f5 step2; rw [ha]; simp only []; rw [hb]; rfl
      rw [this]
      cases o <;> rfl
    | none =>
      rw [hb] at b
      obtain ⟨z2, hz2⟩ := b
      rw [hz2]
      simp only [Option.bind_some]
      rw [whR_step, hs7]
      refine ⟨7, ?_⟩
      have : f5 p = none := by unfold f5 step2; rw [ha]; simp only []; rw [hb]; rfl
      rw [this]; rfl

theorem s_predicates {l : List api_Pol} (h : psizeL l ≤ BIG) : ref28_predicates l = some (l.all ppred) := by
  have e := forR_split0 (ref28_predicates_b1 l) (fun _ x _ => if !ppred x then some false else none) l fun pre x r e => by
    simp only [ref28_predicates_b1, gat_pre e, Option.bind_some]
    rw [r_pred (memL_big h (mem_pre e))]
    cases ppred x <;> rfl
  unfold ref28_predicates
  rw [e, runS_any (fun x => !ppred x) false, ← all_notany]
  cases l.any (fun x => !ppred x) <;> rfl

theorem s_b8 (p : api_Pol) : forR (ref28_once_b8 p) (irange 0 (p.Kids.length : Int)) () = some (exOf (if p.Kids.any (fun x => x.Op == 1) then some (yes idP) else none)) := by
  rw [← runS_any (fun x : api_Pol => x.Op == 1) (yes idP) p.Kids []]
  refine forR_split0 _ _ _ fun pre x r e => ?_
  simp only [ref28_once_b8, gat_pre e, Option.bind_some]
  by_cases c : x.Op = 1
  · simp [c, brOf, yes, idP]
  · simp [c, brOf]

theorem s_f7 {p : api_Pol} (ho : p.Op = 6 ∨ p.Op = 7) {rest : Option (api_Pol × Bool)} (hr : rest = some (p, false)) :
    (if (if (p.Op == 6) then ((p.Kids.length : Int) == 1) else ((p.Op == 7) && ((p.Kids.length : Int) == 1))) then (gat p.Kids 0).bind fun x113 => some (x113, true) else (if (if (p.Op == 6) then ((p.Kids.length : Int) == 0) else ((p.Op == 7) && ((p.Kids.length : Int) == 0))) then some ((api_Pol.mk (IntKind.i64.wrap (7 - p.Op)) 0 0 []), true) else rest)) = some (match f7 p with | some q => (q, true) | none => (p, false)) := by
  have e1 : (if (p.Op == 6) then ((p.Kids.length : Int) == 1) else ((p.Op == 7) && ((p.Kids.length : Int) == 1))) = ((p.Kids.length : Int) == 1) := by rcases ho with h | h <;> simp [h]
  have e0 : (if (p.Op == 6) then ((p.Kids.length : Int) == 0) else ((p.Op == 7) && ((p.Kids.length : Int) == 0))) = ((p.Kids.length : Int) == 0) := by rcases ho with h | h <;> simp [h]
  rw [e1, e0]
  unfold f7
  match hk : p.Kids with
  | [] =>
    rw [w_i64 (by omega) (by omega)]; rfl
  | [x] => rfl
  | x :: y :: l =>
    have h0 : ¬ (((x :: y :: l).length : Int) == 0) = true := by simp; omega
    have h1 : ¬ (((x :: y :: l).length : Int) == 1) = true := by simp; omega
    rw [if_neg h1, if_neg h0, hr]

theorem s_once {p : api_Pol} (h : psize p ≤ BIG) (h4 : p.Op = 4 → ∃ k, p.Kids = [k] ∧ 0 ≤ k.Op ∧ (k.Op = 4 → k.Kids ≠ [])) : ref28_once p = some (match onceS p with | some q => (q, true) | none => (p, false)) := by
  unfold ref28_once onceS
  have hs := psize_eq p
  by_cases h67 : p.Op = 6 ∨ p.Op = 7
  · rw [show ((p.Op == 6) || (p.Op == 7)) = true by simpa using h67, if_pos rfl, if_pos h67, s_b1 p h]
    cases c1 : f1 p with
    | some q => rfl
    | none =>
      simp only [Option.map_none, exOf, Option.bind_some, s_b2 p h]
      cases c2 : f2 p with
      | some q => rfl
      | none =>
        simp only [Option.map_none, exOf, Option.bind_some]
        have hn4 : p.Op ≠ 4 := by omega
        have hn4' : (p.Op == 4) = false := by simpa using hn4
        rcases h67 with h6 | h7
        · rw [show (p.Op == 6) = true by simpa using h6, show (p.Op == 7) = false by rw [h6]; rfl]
          simp only [if_true, s_b3 p, if_pos h6, Bool.false_eq_true, if_false]
          cases c3 : f3 p with
          | some q => rfl
          | none =>
            simp only [Option.map_none, exOf, Option.bind_some]
            obtain ⟨z, hz⟩ := s_b6 p h
            rw [hz]
            cases c5 : f5 p with
            | some q => rfl
            | none =>
              simp only [Option.bind_some]
              have := s_f7 (p := p) (.inl h6) (rest := some (p, false)) rfl
              rw [show (p.Op == 6) = true by simpa using h6, show (p.Op == 7) = false by rw [h6]; rfl] at this
              simp only [if_true, Bool.false_eq_true, if_false] at this
              rw [hn4']
              simp only [Bool.false_eq_true, if_false, Option.bind_some]
              exact this
        · have h6 : ¬ p.Op = 6 := by omega
          rw [show (p.Op == 7) = true by simpa using h7, show (p.Op == 6) = false by rw [h7]; rfl]
          simp only [if_true, s_b4 p h, if_neg h6, Bool.false_eq_true, if_false, Option.bind_some]
          cases c4 : f4 p with
          | some q => rfl
          | none =>
            simp only [Option.map_none, exOf, Option.bind_some, s_predicates (l := p.Kids) (by omega)]
            have hf6 : f6 p = if p.Kids.all ppred && p.Kids.any (fun x => x.Op == 1) then some idP else none := rfl
            have := s_f7 (p := p) (.inr h7) (rest := some (p, false)) rfl
            rw [show (p.Op == 7) = true by simpa using h7, show (p.Op == 6) = false by rw [h7]; rfl] at this
            simp only [if_true, Bool.false_eq_true, if_false, Bool.true_and] at this
            rw [hn4', hf6]
            simp only [Bool.false_eq_true, if_false, Option.bind_some, Bool.true_and]
            cases ca : p.Kids.all ppred with
            | false =>
              simp only [Bool.false_eq_true, if_false, Option.bind_some, Bool.false_and]
              exact this
            | true =>
              simp only [if_true, s_b8 p, Bool.true_and]
              cases cb : p.Kids.any (fun x => x.Op == 1) with
              | true => rfl
              | false =>
                simp only [Bool.false_eq_true, if_false, exOf, Option.bind_some]
                exact this
  · have h6 : ¬ p.Op = 6 := fun h => h67 (.inl h)
    have h7 : ¬ p.Op = 7 := fun h => h67 (.inr h)
    rw [show (p.Op == 6) = false by simpa using h6, show (p.Op == 7) = false by simpa using h7, if_neg h67]
    simp only [Bool.or_self, Bool.false_eq_true, if_false, Option.bind_some, Bool.false_and]
    by_cases c4 : p.Op = 4
    · obtain ⟨k, hk, hk0, hkk⟩ := h4 c4
      rw [show (p.Op == 4) = true by simpa using c4, if_pos c4, hk]
      unfold f8
      rw [hk]
      simp only [if_true, show gat [k] 0 = some k from rfl, Option.bind_some]
      by_cases k2 : k.Op < 2
      · rw [decide_eq_true k2, if_pos k2]
        simp only [if_true]
        rw [w_i64 (by omega) (by omega)]
      · rw [decide_eq_false k2, if_neg k2]
        simp only [Bool.false_eq_true, if_false]
        by_cases k4 : k.Op = 4
        · rw [show (k.Op == 4) = true by simpa using k4, if_pos k4]
          simp only [if_true]
          cases hkids : k.Kids with
          | nil => exact (hkk k4 hkids).elim
          | cons y r => rfl
        · rw [show (k.Op == 4) = false by simpa using k4, if_neg k4]
          rfl
    · rw [show (p.Op == 4) = false by simpa using c4, if_neg c4]
      rfl

end Go.AM
