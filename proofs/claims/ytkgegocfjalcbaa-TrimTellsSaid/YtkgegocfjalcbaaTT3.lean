import Derived.Test.YtkgegocfjalcbaaTT2
/-
  What the program makes of the kids of a sum, of a sequence, of a not: told outright.
-/
set_option linter.unusedVariables false
set_option linter.unusedSimpArgs false
namespace Go.AM
open Go

def idP : api_Pol := ⟨1, 0, 0, []⟩
def dropP : api_Pol := ⟨0, 0, 0, []⟩

def flatS (op : Int) (l : List api_Pol) : List api_Pol := l.flatMap fun k => if k.Op = op then k.Kids else [k]

theorem flatS_app (op : Int) (l m : List api_Pol) : flatS op (l ++ m) = flatS op l ++ flatS op m := by simp [flatS]
theorem flatS_one (op : Int) (x : api_Pol) : flatS op [x] = if x.Op = op then x.Kids else [x] := by simp [flatS]
theorem flatS_cons (op : Int) (x : api_Pol) (l : List api_Pol) : flatS op (x :: l) = (if x.Op = op then x.Kids else [x]) ++ flatS op l := by simp [flatS]

theorem flatS_size (op : Int) : ∀ l, psizeL (flatS op l) ≤ psizeL l
  | [] => by simp [flatS, psizeL]
  | x :: l => by
    have := flatS_size op l
    have e := psize_eq x
    rw [flatS_cons, psizeL_app, psizeL]
    split
    · omega
    · simp only [psizeL]; omega

theorem flatS_depth (op : Int) : ∀ l, pdepthL (flatS op l) ≤ pdepthL l
  | [] => by simp [flatS, pdepthL]
  | x :: l => by
    have := flatS_depth op l
    have e := pdepth_eq x
    rw [flatS_cons, pdepthL_app, pdepthL]
    split
    · omega
    · simp only [pdepthL]; omega

theorem s_flat (op : Int) {l : List api_Pol} (h : psizeL l ≤ BIG) : trim_flat op l = some (flatS op l) := by
  unfold BIG at h
  obtain ⟨s', e, hP⟩ := forO_list (trim_flat_b1 op l) l (fun d s => s = flatS op d) [] (by simp [flatS]) (fun i x s hx hP => by
    refine ⟨flatS op (l.take i ++ [x]), ?_, rfl⟩
    have h3 := sumTake hx
    have h4 := flatS_size op (l.take i)
    have h5 := len_psizeL (flatS op (l.take i))
    have h6 := len_psizeL x.Kids
    have h7 := psize_eq x
    subst hP
    simp only [trim_flat_b1, gat_nat, hx, Option.bind_some]
    rw [flatS_app, flatS_one]
    by_cases c : x.Op = op
    · rw [show (x.Op == op) = true by simpa using c, if_pos rfl, gapp_some (by omega), if_pos c]; rfl
    · rw [show (x.Op == op) = false by simpa using c, if_neg (by simp), gapp_some (by simp; omega), if_neg c]; rfl)
  simp only [trim_flat, e, Option.bind_some, hP]

/-! 'slices.DeleteFunc' -/

theorem runS_find (p : api_Pol → Bool) : ∀ (suf pre : List api_Pol), (match runS (fun pre x _ => if p x then some (pre.length : Int) else none) pre suf with
    | some i => ∃ a x b, suf = a ++ x :: b ∧ p x = true ∧ (∀ y ∈ a, p y = false) ∧ i = ((pre ++ a).length : Int)
    | none => ∀ y ∈ suf, p y = false)
  | [], pre => by simp [runS]
  | x :: r, pre => by
    simp only [runS]
    by_cases h : p x = true
    · simp only [h, if_true]
      exact ⟨[], x, r, rfl, h, by simp, by simp⟩
    · have h' : p x = false := by simpa using h
      simp only [h', Bool.false_eq_true, if_false]
      have := runS_find p r (pre ++ [x])
      cases hi : runS (fun pre x _ => if p x then some (pre.length : Int) else none) (pre ++ [x]) r with
      | some i =>
        rw [hi] at this
        obtain ⟨a, y, b, h1, h2, h3, h4⟩ := this
        refine ⟨x :: a, y, b, by rw [h1]; rfl, h2, ?_, by rw [h4]; simp⟩
        intro z hz
        rcases List.mem_cons.1 hz with rfl | hz
        · exact h'
        · exact h3 z hz
      | none =>
        rw [hi] at this
        intro y hy
        rcases List.mem_cons.1 hy with rfl | hy
        · exact h'
        · exact this y hy

theorem del_loop {f : api_Pol → Option Bool} {p : api_Pol → Bool} (l : List api_Pol) (h : ∀ x ∈ l, f x = some (p x)) (hl : l.length ≤ BIG) : ∀ (k : Nat) (keep gap todo : List api_Pol) (m : Nat), l.length = keep.length + gap.length + todo.length → (∀ x ∈ todo, x ∈ l) → todo.length = k →
    whK (slices_DeleteFunc_api_Pol_b1 f) (m + k + 1) (keep ++ gap ++ todo, (keep.length : Int), ((keep.length + gap.length : Nat) : Int)) = some ((keep ++ todo.filter (fun x => !p x)) ++ (gap ++ todo).drop (todo.filter (fun x => !p x)).length, ((keep.length + (todo.filter (fun x => !p x)).length : Nat) : Int), (l.length : Int))
  | 0, keep, gap, todo, m, h1, h2, h3 => by
    have : todo = [] := List.length_eq_zero_iff.1 h3
    subst this
    rw [whK_step]
    simp only [slices_DeleteFunc_api_Pol_b1]
    have : ¬ (((keep.length + gap.length : Nat) : Int) < ((keep ++ gap ++ []).length : Int)) := by simp
    rw [decide_eq_false this]
    simp at h1
    simp [h1]
  | k + 1, keep, gap, [], m, h1, h2, h3 => by simp at h3
  | k + 1, keep, gap, x :: todo, m, h1, h2, h3 => by
    unfold BIG at hl
    have h3' : todo.length = k := by simpa using h3
    rw [show m + (k + 1) + 1 = (m + k + 1) + 1 by omega, whK_step]
    simp only [slices_DeleteFunc_api_Pol_b1]
    have : (((keep.length + gap.length : Nat) : Int) < ((keep ++ gap ++ x :: todo).length : Int)) := by simp; omega
    rw [decide_eq_true this]
    have hg : gat (keep ++ gap ++ x :: todo) ((keep.length + gap.length : Nat) : Int) = some x := by
      rw [gat_nat, List.getElem?_append_right (by simp)]; simp
    simp only [hg, if_true, Option.bind_some, h x (h2 x (by simp))]
    have hw : IntKind.i64.wrap (((keep.length + gap.length : Nat) : Int) + 1) = ((keep.length + gap.length + 1 : Nat) : Int) := by
      rw [w_i64 (by omega) (by simp at h1; omega)]; push_cast; rfl
    by_cases c : p x = true
    · simp only [c, Bool.not_true, Bool.false_eq_true, if_false, Option.bind_some, hw]
      have ih := del_loop l h hl k keep (gap ++ [x]) todo m (by simp at h1 ⊢; omega) (fun y hy => h2 y (by simp [hy])) h3'
      have e1 : keep ++ gap ++ x :: todo = keep ++ (gap ++ [x]) ++ todo := by simp
      have e2 : ((keep.length + gap.length + 1 : Nat) : Int) = ((keep.length + (gap ++ [x]).length : Nat) : Int) := by simp [Nat.add_assoc]
      rw [e1, e2, ih]
      simp [c]
    · have c' : p x = false := by simpa using c
      simp only [c', Bool.not_false, if_true]
      have hlt : keep.length < (keep ++ gap ++ x :: todo).length := by simp; omega
      have hg2 : ∃ y, gat (keep ++ gap ++ x :: todo) (keep.length : Int) = some y := by
        rw [gat_nat, List.getElem?_eq_getElem hlt]; exact ⟨_, rfl⟩
      obtain ⟨y, hy⟩ := hg2
      have hw2 : IntKind.i64.wrap ((keep.length : Int) + 1) = ((keep.length + 1 : Nat) : Int) := by
        rw [w_i64 (by omega) (by simp at h1; omega)]; push_cast; rfl
      have hp : gput (keep ++ gap ++ x :: todo) (keep.length : Int) x = some ((keep ++ gap ++ x :: todo).set keep.length x) := by
        unfold gput; rw [if_pos (by omega), Int.toNat_natCast, if_pos hlt]
      simp only [hy, hp, Option.bind_some, hw, hw2]
      cases gap with
      | nil =>
        have e1 : (keep ++ [] ++ x :: todo).set keep.length x = (keep ++ [x]) ++ [] ++ todo := by simp
        have ih := del_loop l h hl k (keep ++ [x]) [] todo m (by simp at h1 ⊢; omega) (fun y hy => h2 y (by simp [hy])) h3'
        rw [e1]
        simp only [List.length_nil, Nat.add_zero, List.length_append, List.length_singleton] at ih ⊢
        rw [ih]
        have ef : (x :: todo).filter (fun x => !p x) = x :: todo.filter (fun x => !p x) := by simp [c']
        rw [ef]
        generalize todo.filter (fun x => !p x) = F
        refine congrArg some (Prod.ext ?_ (Prod.ext ?_ rfl))
        · simp
        · simp only [List.length_cons]; push_cast; omega
      | cons g gap =>
        have e1 : (keep ++ (g :: gap) ++ x :: todo).set keep.length x = (keep ++ [x]) ++ (gap ++ [x]) ++ todo := by simp
        have ih := del_loop l h hl k (keep ++ [x]) (gap ++ [x]) todo m (by simp at h1 ⊢; omega) (fun y hy => h2 y (by simp [hy])) h3'
        rw [e1]
        simp only [List.length_cons, List.length_append, List.length_nil, Nat.zero_add, Nat.add_zero] at ih ⊢
        rw [show keep.length + (gap.length + 1) + 1 = keep.length + 1 + (gap.length + 1) by omega, ih]
        have ef : (x :: todo).filter (fun x => !p x) = x :: todo.filter (fun x => !p x) := by simp [c']
        rw [ef]
        generalize todo.filter (fun x => !p x) = F
        refine congrArg some (Prod.ext ?_ (Prod.ext ?_ rfl))
        · simp
        · simp only [List.length_cons]; push_cast; omega

theorem filter_none {α : Type} (q : α → Bool) {l : List α} (h : ∀ y ∈ l, q y = true) : l.filter q = l := List.filter_eq_self.2 h

theorem s_delete {l : List api_Pol} {f : api_Pol → Option Bool} {p : api_Pol → Bool} (h : ∀ x ∈ l, f x = some (p x)) (hl : l.length ≤ BIG) : slices_DeleteFunc_api_Pol l f = some (l.filter fun x => !p x) := by
  have hb := hl
  unfold BIG at hb
  unfold slices_DeleteFunc_api_Pol
  rw [s_index h]
  have hf := runS_find p l []
  cases hr : runS (fun pre x _ => if p x then some (pre.length : Int) else none) [] l with
  | none =>
    rw [hr] at hf
    simp only [Option.bind_some]
    rw [filter_none _ fun y hy => by rw [hf y hy]; rfl]
    rfl
  | some i =>
    rw [hr] at hf
    obtain ⟨a, x, b, rfl, h2, h3, rfl⟩ := hf
    simp only [List.nil_append, Option.bind_some]
    have hn : ¬ ((a.length : Int) == -1) = true := by simp
    rw [if_neg hn]
    obtain ⟨m, hm⟩ := FUEL_big (b.length + 1) (by simp at hb; omega)
    have := del_loop (a ++ x :: b) h hl b.length a [x] b m (by simp; omega) (fun y hy => by simp [hy]) rfl
    rw [w_i64 (by omega) (by simp at hb; omega), hm, show m + (b.length + 1) = m + b.length + 1 by omega]
    rw [show (a.length : Int) + 1 = ((a.length + [x].length : Nat) : Int) by simp]
    rw [show a ++ x :: b = a ++ [x] ++ b by simp] at this ⊢
    rw [this]
    simp only [Option.bind_some]
    have hfl : (a ++ [x] ++ b).filter (fun x => !p x) = a ++ b.filter (fun x => !p x) := by
      rw [List.filter_append, List.filter_append, filter_none _ fun y hy => by rw [h3 y hy]; rfl]
      simp [h2]
    rw [hfl]
    generalize b.filter (fun x => !p x) = fb
    generalize ([x] ++ b).drop fb.length = rest
    have hc : gcut (a ++ fb ++ rest) ((a.length + fb.length : Nat) : Int) ((a ++ fb ++ rest).length : Int) = some (((a ++ fb ++ rest).drop (a.length + fb.length)).take ((a ++ fb ++ rest).length - (a.length + fb.length))) := by
      unfold gcut
      rw [if_pos (by simp; omega)]
      simp only [Int.toNat_natCast]
    rw [hc]
    simp only [Option.bind_some, Int.toNat_natCast]
    congr 1
    rw [show a.length + fb.length = (a ++ fb).length by simp, List.take_left' rfl]

theorem s_without (op : Int) {l : List api_Pol} (hl : l.length ≤ BIG) : trim_without op l = some (l.filter fun x => !(x.Op == op)) := by
  unfold trim_without
  rw [s_delete (f := fun y0 => trim_without_1 y0 op) (p := fun x => x.Op == op) (fun x _ => rfl) hl]
  rfl

theorem s_has (op : Int) (l : List api_Pol) : trim_has op l = some (l.any fun x => x.Op == op) := by
  unfold trim_has
  rw [s_contains (f := fun y0 => trim_has_1 y0 op) (p := fun x => x.Op == op) fun x _ => rfl]
  rfl

/-! a sum -/

noncomputable def dedup (acc l : List api_Pol) : List api_Pol := l.foldl (fun acc k => if k ∈ acc then acc else acc ++ [k]) acc

theorem dedup_app (acc l : List api_Pol) (x : api_Pol) : dedup acc (l ++ [x]) = if x ∈ dedup acc l then dedup acc l else dedup acc l ++ [x] := by
  unfold dedup; rw [List.foldl_append]; rfl

theorem dedup_size : ∀ (l acc : List api_Pol), psizeL (dedup acc l) ≤ psizeL acc + psizeL l
  | [], acc => by simp [dedup]
  | x :: l, acc => by
    show psizeL (dedup (if x ∈ acc then acc else acc ++ [x]) l) ≤ _
    have := dedup_size l (if x ∈ acc then acc else acc ++ [x])
    rw [psizeL]
    split at this
    · rw [if_pos (by assumption)]; omega
    · rw [if_neg (by assumption)]; rw [psizeL_app] at this; simp only [psizeL] at this; omega

def oneOf (op : Int) : List api_Pol → api_Pol
  | [] => ⟨7 - op, 0, 0, []⟩
  | [x] => x
  | l => ⟨op, 0, 0, l⟩

noncomputable def sumS (kids : List api_Pol) : api_Pol :=
  let l := dedup [] ((flatS 7 kids).filter fun x => !(x.Op == 0))
  if (l.any fun x => x.Op == 1) && l.all ppred then idP else oneOf 7 l

theorem filter_size (q : api_Pol → Bool) : ∀ l, psizeL (l.filter q) ≤ psizeL l
  | [] => by simp [psizeL]
  | x :: l => by
    have := filter_size q l
    rw [List.filter_cons, psizeL]
    split
    · rw [psizeL]; omega
    · omega

theorem filter_depth (q : api_Pol → Bool) : ∀ l, pdepthL (l.filter q) ≤ pdepthL l
  | [] => by simp [pdepthL]
  | x :: l => by
    have := filter_depth q l
    rw [List.filter_cons, pdepthL]
    split
    · rw [pdepthL]; omega
    · omega

theorem memL_big {l : List api_Pol} (h : psizeL l ≤ BIG) {x : api_Pol} (hx : x ∈ l) : psize x ≤ BIG := by
  have := psizeL_mem hx; omega

theorem len2 {l : List api_Pol} (h0 : l ≠ []) (h1 : ∀ x, l ≠ [x]) (op : Int) : oneOf op l = ⟨op, 0, 0, l⟩ := by
  match l, h0, h1 with
  | x :: y :: l, _, _ => rfl
  | [x], _, h => exact (h x rfl).elim
  | [], h, _ => exact (h rfl).elim

theorem s_ends (op : Int) (l : List api_Pol) (d : Option api_Pol) (hd : d = some (oneOf op [])) : (if ((l.length : Int) == 0) then d.bind fun r => some r else (if ((l.length : Int) == 1) then (gat l 0).bind fun x => some x else some (api_Pol.mk op 0 0 l))) = some (oneOf op l) := by
  match l with
  | [] => rw [hd]; rfl
  | [x] => rfl
  | x :: y :: l =>
    have h0 : ¬ (((x :: y :: l).length : Int) == 0) = true := by simp; omega
    have h1 : ¬ (((x :: y :: l).length : Int) == 1) = true := by simp; omega
    rw [if_neg h0, if_neg h1]; rfl

theorem s_sum {l : List api_Pol} (h : psizeL l ≤ BIG) : trim_sum l = some (sumS l) := by
  have h1 := flatS_size 7 l
  have h2 := filter_size (fun x => !(x.Op == 0)) (flatS 7 l)
  have h3 := len_psizeL (flatS 7 l)
  unfold trim_sum
  rw [s_flat 7 h, Option.bind_some, s_without 0 (by omega), Option.bind_some]
  unfold sumS
  generalize hm : (flatS 7 l).filter (fun x => !(x.Op == 0)) = m
  rw [hm] at h2
  have hmb : psizeL m ≤ BIG := by omega
  have hBIG : BIG = 100000 := rfl
  obtain ⟨s', e, hP⟩ := forO_list (trim_sum_b1 m) m (fun d s => s = dedup [] d) [] (by simp [dedup]) (fun i x s hx hP => by
    refine ⟨dedup [] (m.take i ++ [x]), ?_, rfl⟩
    have h3 := sumTake hx
    have h4 := dedup_size (m.take i) []
    have h5 := len_psizeL (dedup [] (m.take i))
    simp only [psizeL] at h4
    subst hP
    simp only [trim_sum_b1, gat_nat, hx, Option.bind_some]
    rw [s_contains (p := fun y => decide (y = x)) fun y hy => by
      simp only [trim_sum_1]
      have := psizeL_mem hy
      rw [s_same x (by omega)]; rfl]
    rw [dedup_app]
    have he : (dedup [] (m.take i)).any (fun y => decide (y = x)) = decide (x ∈ dedup [] (m.take i)) := by
      rw [Bool.eq_iff_iff]; simp
    rw [he]
    have hp := psize_pos x
    by_cases c : x ∈ dedup [] (m.take i)
    · simp [c]
    · simp only [c, decide_false, Option.bind_some, Bool.not_false, if_true, if_false]
      rw [gapp_some (by simp; omega)]; rfl)
  have hds := dedup_size m []
  simp only [psizeL] at hds
  simp only [e, Option.bind_some, hP]
  generalize dedup [] m = z at *
  rw [s_has]
  have hall : slices_ContainsFunc_api_Pol z (fun y0 => trim_sum_2 y0) = some (z.any fun x => !ppred x) := s_contains fun y hy => by
    simp only [trim_sum_2]
    have := psizeL_mem hy
    rw [s_pred (by omega)]; rfl
  rw [hall]
  simp only [Option.bind_some, all_notany]
  by_cases c1 : (z.any fun x => x.Op == 1) = true
  · by_cases c2 : z.all ppred = true
    · simp only [c1, c2, if_true, Option.bind_some, Bool.and_self]; rfl
    · have c2' : z.all ppred = false := by simpa using c2
      simp only [c1, c2', if_true, Option.bind_some, Bool.and_false, Bool.false_eq_true, if_false]
      exact s_ends 7 z trim_drop rfl
  · have c1' : (z.any fun x => x.Op == 1) = false := by simpa using c1
    simp only [c1', Option.bind_some, Bool.false_and, Bool.false_eq_true, if_false]
    exact s_ends 7 z trim_drop rfl

end Go.AM
