import Derived.Test.YtkgegocfjalcbaaAmLp
import Derived.Test.YtkgegocfjalcbaaTrT
/-
  Policies as plain trees: size, depth, being well formed.
-/
set_option linter.unusedVariables false
set_option linter.unusedSimpArgs false
namespace Go.AM
open Go

theorem pol_ind {P : api_Pol → Prop} (h : ∀ p, (∀ k ∈ p.Kids, P k) → P p) : ∀ p, P p := by
  intro p
  refine api_Pol.rec (motive_1 := P) (motive_2 := fun l => ∀ k ∈ l, P k) (fun o f n l ih => h _ ih) (fun k hk => by cases hk) (fun x l hx hl k hk => ?_) p
  rcases List.mem_cons.1 hk with rfl | hk
  · exact hx
  · exact hl k hk

noncomputable instance polDec : DecidableEq api_Pol := fun a b => Classical.propDecidable (a = b)

mutual
def psize : api_Pol → Nat
  | ⟨_, _, _, l⟩ => 1 + psizeL l
def psizeL : List api_Pol → Nat
  | [] => 0
  | x :: l => psize x + psizeL l
end

mutual
def pdepth : api_Pol → Nat
  | ⟨_, _, _, l⟩ => 1 + pdepthL l
def pdepthL : List api_Pol → Nat
  | [] => 0
  | x :: l => max (pdepth x) (pdepthL l)
end

mutual
def ppred : api_Pol → Bool
  | ⟨o, _, _, l⟩ => if 0 ≤ o ∧ o ≤ 4 then true else if o = 6 ∨ o = 7 then ppredL l else false
def ppredL : List api_Pol → Bool
  | [] => true
  | x :: l => ppred x && ppredL l
end

mutual
def pform (n : Int) : api_Pol → Bool
  | ⟨o, f, m, l⟩ =>
    if o = 0 ∨ o = 1 then decide (l.length = 0 ∧ f = 0 ∧ m = 0)
    else if o = 4 then decide (l.length = 1 ∧ f = 0 ∧ m = 0) && ppredL l && pformL n l
    else if o = 6 ∨ o = 7 then decide (2 ≤ l.length ∧ f = 0 ∧ m = 0) && pformL n l
    else if o = 2 then decide (l.length = 0 ∧ 0 ≤ f ∧ f < 8)
    else if o = 5 then decide (l.length = 0 ∧ 1 ≤ f ∧ f < 8)
    else if o = 3 then decide (l.length = 0 ∧ 0 ≤ f ∧ f < n)
    else false
def pformL (n : Int) : List api_Pol → Bool
  | [] => true
  | x :: l => pform n x && pformL n l
end

theorem psize_eq (p : api_Pol) : psize p = 1 + psizeL p.Kids := by cases p; rw [psize]
theorem pdepth_eq (p : api_Pol) : pdepth p = 1 + pdepthL p.Kids := by cases p; rw [pdepth]
theorem ppredL_all : ∀ l, ppredL l = l.all ppred
  | [] => by rw [ppredL]; rfl
  | x :: l => by rw [ppredL, ppredL_all l]; rfl
theorem pformL_all (n : Int) : ∀ l, pformL n l = l.all (pform n)
  | [] => by rw [pformL]; rfl
  | x :: l => by rw [pformL, pformL_all n l]; rfl
theorem ppred_eq (p : api_Pol) : ppred p = if 0 ≤ p.Op ∧ p.Op ≤ 4 then true else if p.Op = 6 ∨ p.Op = 7 then p.Kids.all ppred else false := by
  cases p; rw [ppred, ppredL_all]
theorem pform_eq (n : Int) (p : api_Pol) : pform n p =
    if p.Op = 0 ∨ p.Op = 1 then decide (p.Kids.length = 0 ∧ p.F = 0 ∧ p.N = 0)
    else if p.Op = 4 then decide (p.Kids.length = 1 ∧ p.F = 0 ∧ p.N = 0) && p.Kids.all ppred && p.Kids.all (pform n)
    else if p.Op = 6 ∨ p.Op = 7 then decide (2 ≤ p.Kids.length ∧ p.F = 0 ∧ p.N = 0) && p.Kids.all (pform n)
    else if p.Op = 2 then decide (p.Kids.length = 0 ∧ 0 ≤ p.F ∧ p.F < 8)
    else if p.Op = 5 then decide (p.Kids.length = 0 ∧ 1 ≤ p.F ∧ p.F < 8)
    else if p.Op = 3 then decide (p.Kids.length = 0 ∧ 0 ≤ p.F ∧ p.F < n)
    else false := by
  cases p; rw [pform, pformL_all, ppredL_all]

theorem psizeL_app : ∀ l m, psizeL (l ++ m) = psizeL l + psizeL m
  | [], m => by simp [psizeL]
  | x :: l, m => by simp only [List.cons_append, psizeL, psizeL_app l m]; omega
theorem pdepthL_app : ∀ l m, pdepthL (l ++ m) = max (pdepthL l) (pdepthL m)
  | [], m => by simp [pdepthL]
  | x :: l, m => by simp only [List.cons_append, pdepthL, pdepthL_app l m]; omega
theorem psizeL_mem {x : api_Pol} : ∀ {l : List api_Pol}, x ∈ l → psize x ≤ psizeL l
  | y :: l, h => by
    rw [psizeL]
    rcases List.mem_cons.1 h with rfl | h
    · omega
    · have := psizeL_mem h; omega
theorem pdepthL_mem {x : api_Pol} : ∀ {l : List api_Pol}, x ∈ l → pdepth x ≤ pdepthL l
  | y :: l, h => by
    rw [pdepthL]
    rcases List.mem_cons.1 h with rfl | h
    · omega
    · have := pdepthL_mem h; omega
theorem psize_pos (p : api_Pol) : 1 ≤ psize p := by rw [psize_eq]; omega
theorem pdepth_pos (p : api_Pol) : 1 ≤ pdepth p := by rw [pdepth_eq]; omega
theorem len_psizeL : ∀ l : List api_Pol, l.length ≤ psizeL l
  | [] => by simp [psizeL]
  | x :: l => by
    have := len_psizeL l; have := psize_pos x
    rw [psizeL, List.length_cons]; omega
theorem pdepthL_le_size : ∀ l : List api_Pol, (∀ x ∈ l, pdepth x ≤ psize x) → pdepthL l ≤ psizeL l
  | [], _ => by simp [pdepthL]
  | x :: l, h => by
    have h1 := h x (by simp)
    have h2 := pdepthL_le_size l fun y hy => h y (by simp [hy])
    rw [pdepthL, psizeL]; omega
theorem pdepth_le (p : api_Pol) : pdepth p ≤ psize p := by
  refine pol_ind (P := fun p => pdepth p ≤ psize p) (fun p ih => ?_) p
  have := pdepthL_le_size p.Kids ih
  rw [pdepth_eq, psize_eq]; omega

theorem at_split {α : Type} {l : List α} {i : Nat} {x : α} (h : l[i]? = some x) : l = l.take i ++ x :: l.drop (i + 1) := by
  have hi := (List.getElem?_eq_some_iff.1 h).1
  have hx : l[i] = x := (List.getElem?_eq_some_iff.1 h).2
  rw [← hx, List.getElem_cons_drop, List.take_append_drop]

theorem sumTake {l : List api_Pol} {i : Nat} {x : api_Pol} (h : l[i]? = some x) : psizeL (l.take i) + psize x ≤ psizeL l := by
  have e := congrArg psizeL (at_split h)
  rw [psizeL_app, psizeL] at e
  omega

/-- How great the trees are of which is spoken here. -/
def BIG : Nat := 100000

theorem size_f : ∀ k p, pdepth p ≤ k → psize p ≤ BIG → syntax_Size_f k p = some (psize p : Int)
  | 0, p, h, _ => by have := pdepth_pos p; omega
  | k + 1, p, h, hb => by
    show syntax_Size_s (syntax_Size_f k) p = _
    have hp := pdepth_eq p; have hs := psize_eq p
    unfold BIG at hb
    obtain ⟨s', e, hP⟩ := forO_list (syntax_Size_b1 p (syntax_Size_f k)) p.Kids (fun l s => s = 1 + (psizeL l : Int)) 1 (by simp [psizeL]) (fun i x s hx hP => by
      have hm := List.mem_of_getElem? hx
      have h1 := pdepthL_mem hm; have h2 := psizeL_mem hm; have h3 := sumTake hx
      refine ⟨1 + (psizeL (p.Kids.take i ++ [x]) : Int), ?_, rfl⟩
      simp only [syntax_Size_b1, gat_nat, hx, Option.bind_some]
      rw [size_f k x (by omega) (by unfold BIG; omega)]
      simp only [Option.bind_some]
      rw [hP, w_i64 (by omega) (by omega), psizeL_app]
      simp [psizeL]; omega)
    simp only [syntax_Size_s, e, Option.bind_some]
    rw [hP, hs]; push_cast; rfl

theorem depth_f : ∀ k p, pdepth p ≤ k → psize p ≤ BIG → syntax_Depth_f k p = some (pdepth p : Int)
  | 0, p, h, _ => by have := pdepth_pos p; omega
  | k + 1, p, h, hb => by
    show syntax_Depth_s (syntax_Depth_f k) p = _
    have hp := pdepth_eq p; have hs := psize_eq p
    unfold BIG at hb
    have hd := pdepth_le p
    obtain ⟨s', e, hP⟩ := forO_list (syntax_Depth_b1 p (syntax_Depth_f k)) p.Kids (fun l s => s = (pdepthL l : Int)) 0 (by simp [pdepthL]) (fun i x s hx hP => by
      have hm := List.mem_of_getElem? hx
      have h1 := pdepthL_mem hm; have h2 := psizeL_mem hm
      refine ⟨(pdepthL (p.Kids.take i ++ [x]) : Int), ?_, rfl⟩
      simp only [syntax_Depth_b1, gat_nat, hx, Option.bind_some]
      rw [depth_f k x (by omega) (by unfold BIG; omega)]
      simp only [Option.bind_some]
      rw [hP, pdepthL_app]
      simp only [imax, pdepthL]
      split <;> simp <;> omega)
    simp only [syntax_Depth_s, e, Option.bind_some]
    rw [hP, hp, w_i64 (by omega) (by omega)]; push_cast; rw [Int.add_comm]

theorem rsize_f : ∀ k, ref05_Size_f k = syntax_Size_f k
  | 0 => rfl
  | k + 1 => by show ref05_Size_s (ref05_Size_f k) = syntax_Size_s (syntax_Size_f k); rw [rsize_f k]; rfl
theorem rdepth_f : ∀ k, ref05_Depth_f k = syntax_Depth_f k
  | 0 => rfl
  | k + 1 => by show ref05_Depth_s (ref05_Depth_f k) = syntax_Depth_s (syntax_Depth_f k); rw [rdepth_f k]; rfl

theorem fuel_ge {p : api_Pol} (h : psize p ≤ BIG) : pdepth p ≤ FUEL := by
  have := pdepth_le p
  unfold BIG at h
  obtain ⟨m, hm⟩ := FUEL_big 1000000 (by omega)
  omega

theorem s_size {p : api_Pol} (h : psize p ≤ BIG) : syntax_Size p = some (psize p : Int) := size_f _ _ (fuel_ge h) h
theorem s_depth {p : api_Pol} (h : psize p ≤ BIG) : syntax_Depth p = some (pdepth p : Int) := depth_f _ _ (fuel_ge h) h
theorem r_size {p : api_Pol} (h : psize p ≤ BIG) : ref05_Size p = some (psize p : Int) := by unfold ref05_Size; rw [rsize_f]; exact size_f _ _ (fuel_ge h) h
theorem r_depth {p : api_Pol} (h : psize p ≤ BIG) : ref05_Depth p = some (pdepth p : Int) := by unfold ref05_Depth; rw [rdepth_f]; exact depth_f _ _ (fuel_ge h) h

/-! loops that look for something -/

/-- The first place of which a step says something. -/
def runS {α β : Type} (step : List α → α → List α → Option β) : List α → List α → Option β
  | _, [] => none
  | pre, x :: r => match step pre x r with
    | some b => some b
    | none => runS step (pre ++ [x]) r

theorem forR_split {α β : Type} (f : Int → Unit → Option (Br Unit β)) (step : List α → α → List α → Option β) {l : List α} (h : ∀ pre x r, l = pre ++ x :: r → f (pre.length : Int) () = some (brOf (step pre x r))) :
    ∀ suf pre, l = pre ++ suf → forR f (irange (pre.length : Int) (l.length : Int)) () = some (exOf (runS step pre suf))
  | [], pre, e => by
    have : l.length = pre.length := by rw [e]; simp
    rw [this, irangeN_nil]; rfl
  | x :: r, pre, e => by
    have hl : l.length = pre.length + (r.length + 1) := by rw [e]; simp
    rw [hl, irangeN_cons]
    simp only [forR]
    rw [h pre x r e]
    simp only [Option.bind_some, runS]
    cases step pre x r with
    | some b => rfl
    | none =>
      show forR f _ () = _
      have := forR_split f step h r (pre ++ [x]) (by rw [e]; simp)
      rw [hl] at this
      simpa using this

theorem forR_split0 {α β : Type} (f : Int → Unit → Option (Br Unit β)) (step : List α → α → List α → Option β) (l : List α) (h : ∀ pre x r, l = pre ++ x :: r → f (pre.length : Int) () = some (brOf (step pre x r))) :
    forR f (irange 0 (l.length : Int)) () = some (exOf (runS step [] l)) := by
  have := forR_split f step h l [] rfl
  simpa using this

theorem runS_any {α β : Type} (p : α → Bool) (b : β) : ∀ (suf pre : List α), runS (fun _ x _ => if p x then some b else none) pre suf = if suf.any p then some b else none
  | [], pre => rfl
  | x :: r, pre => by
    simp only [runS, List.any_cons]
    by_cases h : p x = true
    · simp [h]
    · simp [h, runS_any p b r]

theorem gat_pre {α : Type} {l pre r : List α} {x : α} (e : l = pre ++ x :: r) : gat l (pre.length : Int) = some x := by
  rw [gat_nat, e]; simp

theorem mem_pre {α : Type} {l pre r : List α} {x : α} (e : l = pre ++ x :: r) : x ∈ l := by rw [e]; simp

/-- 'slices.IndexFunc' -/
theorem s_index {l : List api_Pol} {f : api_Pol → Option Bool} {p : api_Pol → Bool} (h : ∀ x ∈ l, f x = some (p x)) :
    slices_IndexFunc_api_Pol l f = some (match runS (fun pre x _ => if p x then some (pre.length : Int) else none) [] l with | some i => i | none => -1) := by
  unfold slices_IndexFunc_api_Pol
  rw [forR_split0 _ (fun pre x _ => if p x then some (pre.length : Int) else none) l (fun pre x r e => by
    simp only [slices_IndexFunc_api_Pol_b1, gat_pre e, Option.bind_some, h x (mem_pre e)]
    by_cases c : p x = true <;> simp [c, brOf])]
  simp only [Option.bind_some]
  cases runS (fun pre x _ => if p x then some (pre.length : Int) else none) [] l <;> rfl

theorem runS_index (p : api_Pol → Bool) : ∀ (suf pre : List api_Pol), (match runS (fun pre x _ => if p x then some (pre.length : Int) else none) pre suf with | some i => decide (i ≥ 0) | none => false) = suf.any p
  | [], pre => rfl
  | x :: r, pre => by
    simp only [runS, List.any_cons]
    by_cases h : p x = true
    · simp [h]
    · simp [h, runS_index p r]

theorem s_contains {l : List api_Pol} {f : api_Pol → Option Bool} {p : api_Pol → Bool} (h : ∀ x ∈ l, f x = some (p x)) : slices_ContainsFunc_api_Pol l f = some (l.any p) := by
  unfold slices_ContainsFunc_api_Pol
  rw [s_index h, Option.bind_some, ← runS_index p l []]
  cases runS (fun pre x _ => if p x then some (pre.length : Int) else none) [] l <;> simp

end Go.AM
