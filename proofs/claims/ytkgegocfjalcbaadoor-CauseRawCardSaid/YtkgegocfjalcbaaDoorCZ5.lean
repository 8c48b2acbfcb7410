import Derived.Test.YtkgegocfjalcbaaDoorCZ4
/-
  Layer 21: what both tell.
-/
set_option linter.unusedVariables false
set_option linter.unusedSimpArgs false
namespace Go.AM
open Go


/-! the looks -/

theorem have_run (l1 : List Bool) (a2 : Int) (N : Nat) (hN : N ≤ 100) (hc : ∀ i : Nat, i ≤ N → (((decide ((i : Int) < a2)) && (decide ((i : Int) < 100))) = true ↔ i < N)) : ∀ (d f i : Nat), i + d = N → d < f → whK (ref21_Ahead_b1 a2 l1) f (List.replicate i l1, (i : Int)) = some (List.replicate N l1, (N : Int)) := by
  intro d
  induction d with
  | zero =>
    intro f i hi hf
    have : i = N := by omega
    subst this
    obtain ⟨f, rfl⟩ : ∃ g, f = g + 1 := ⟨f - 1, by omega⟩
    rw [whK_step]
    simp only [ref21_Ahead_b1]
    rw [if_neg (fun h => by have := (hc i (Nat.le_refl _)).1 h; omega)]
    rfl
  | succ d ih =>
    intro f i hi hf
    obtain ⟨f, rfl⟩ : ∃ g, f = g + 1 := ⟨f - 1, by omega⟩
    rw [whK_step]
    simp only [ref21_Ahead_b1]
    rw [if_pos ((hc i (by omega)).2 (by omega)), gapp_some (by simp; omega)]
    simp only [Option.bind_some]
    have hw : IntKind.i64.wrap ((i : Int) + 1) = ((i + 1 : Nat) : Int) := by rw [w_i64 (by omega) (by omega)]; omega
    rw [hw, show List.replicate i l1 ++ [l1] = List.replicate (i + 1) l1 from List.replicate_succ'.symm]
    exact ih f (i + 1) (by omega) (by omega)

theorem look_both (paths : List api_Path) (h : List api_Step) (a2 : Int) (n : Nat) (hnh : h.length = n) (hn : n ≤ 20) :
    (∃ al os, cause_look paths h a2 = some (al, true) ∧ ref21_Ahead paths h a2 = some (os.map (bm n), true) ∧ SL n al os ∧ os.length = n) ∨
    (cause_look paths h a2 = some ([], false) ∧ ref21_Ahead paths h a2 = some ([], false)) := by
  obtain ⟨N, hN, hNi, hc⟩ : ∃ N : Nat, N ≤ 100 ∧ imin (imax a2 0) 100 = (N : Int) ∧ ∀ i : Nat, i ≤ N → (((decide ((i : Int) < a2)) && (decide ((i : Int) < 100))) = true ↔ i < N) := by
    refine ⟨(imin (imax a2 0) 100).toNat, ?_, ?_, fun i hi => ?_⟩
    · unfold imin imax; split <;> split <;> omega
    · unfold imin imax; split <;> split <;> omega
    · simp only [Bool.and_eq_true, decide_eq_true_eq]
      unfold imin imax at *
      split at hi <;> split at hi <;> split <;> omega
  obtain ⟨m, hm⟩ := FUEL_big 200 (by omega)
  have hz : gmk (h.length : Int) false = some (bm n 0) := by rw [bm_zero]; unfold gmk; rw [if_pos (by omega), ← hnh]; simp
  have hz2 : gmk (N : Int) ([] : List Int) = some (List.replicate N []) := by unfold gmk; rw [if_pos (by omega)]; simp
  have hrun := have_run (bm n 0) a2 N hN hc N FUEL 0 (by omega) (by omega)
  have hrun' : whK (ref21_Ahead_b1 a2 (bm n 0)) FUEL ([], 0) = some (List.replicate N (bm n 0), (N : Int)) := hrun
  have hinit : Both paths h n 0 (paths, h, List.replicate N [], [], [], []) (List.replicate N (bm n 0), bm n 0, []) (List.replicate N 0) [] 0 :=
    ⟨rfl, rfl, ⟨by simp, fun q s w h1 h2 => by
      rw [List.getElem?_replicate] at h1 h2
      split at h1
      · split at h2
        · cases h1; cases h2; exact st_zero n
        · omega
      · cases h1⟩, st_zero n, ⟨rfl, fun q s w h1 => by simp at h1⟩, fun p _ => rfl, by simp, rfl, rfl, rfl, by simpa using hN⟩
  have := forR_rel cause_look_b1 (ref21_Ahead_b2 paths h (bm n 0)) (fun i s t => ∃ ws os c, Both paths h n i s t ws os c) (fun r r' => r = ([], false) ∧ r' = ([], false)) n 0 _ _ ⟨_, _, _, hinit⟩ (by
    rintro j s t _ hj ⟨ws, os, c, hb⟩
    rcases both_step hn hnh (by omega) hb with ⟨s', t', ws', os', c', e1, e2, hb', _⟩ | ⟨e1, e2⟩
    · exact .inl ⟨s', t', e1, e2, _, _, _, hb'⟩
    · exact .inr ⟨_, _, e1, e2, rfl, rfl⟩)
  rw [show (0 + n) = n by omega, show ((0 : Nat) : Int) = 0 from rfl, ← hnh] at this
  unfold cause_look ref21_Ahead
  rw [hNi, hz2, hz]
  simp only [Option.bind_some]
  rw [hrun']
  simp only [Option.bind_some]
  subst hnh
  rcases this with ⟨⟨s1, s2, s3, s4, s5, s6⟩, ⟨t1, t2, t3⟩, e1, e2, ws, os, c, hb⟩ | ⟨r, r', e1, e2, rfl, rfl⟩
  · left
    rw [e1, e2]
    refine ⟨s5, os, rfl, ?_, hb.ahead, hb.len⟩
    have := hb.out
    simp only at this
    rw [← this]; rfl
  · right
    rw [e1, e2]
    exact ⟨rfl, rfl⟩

/-! lists and what is known -/

def cntB (w k : Nat) : List Nat := (List.range k).filter fun e => w.testBit e

theorem cnt_succ (w k : Nat) : cntB w (k + 1) = cntB w k ++ (if w.testBit k then [k] else []) := by
  unfold cntB
  rw [List.range_succ, List.filter_append]
  congr 1
  cases h : w.testBit k <;> simp [List.filter_cons, h]

theorem bits_n {n w : Nat} (hn : n ≤ 20) (hw : w < 2 ^ n) : bits w = cntB w n := by
  unfold bits cntB
  rw [show 64 = n + (64 - n) by omega, List.range_add, List.filter_append]
  have : ((List.range (64 - n)).map (n + ·)).filter (fun e => w.testBit e) = [] := by
    rw [List.filter_eq_nil_iff]
    intro a ha
    obtain ⟨b, _, rfl⟩ := List.mem_map.1 ha
    have h1 : 2 ^ n ≤ 2 ^ (n + b) := Nat.pow_le_pow_right (by decide) (by omega)
    rw [Nat.testBit_lt_two_pow (by omega)]
    simp
  rw [this, List.append_nil]

theorem cnt_mono (w : Nat) : ∀ (d k : Nat), ∃ r, cntB w (k + d) = cntB w k ++ r
  | 0, k => ⟨[], by simp⟩
  | d + 1, k => by
    obtain ⟨r, hr⟩ := cnt_mono w d k
    rw [show k + (d + 1) = (k + d) + 1 by omega, cnt_succ, hr]
    exact ⟨_, List.append_assoc ..⟩

theorem bits_at {n w k : Nat} (hn : n ≤ 20) (hw : w < 2 ^ n) (hk : k < n) (hb : w.testBit k = true) : (bits w)[(cntB w k).length]? = some k := by
  rw [bits_n hn hw]
  obtain ⟨r, hr⟩ := cnt_mono w (n - (k + 1)) (k + 1)
  rw [show k + 1 + (n - (k + 1)) = n by omega, cnt_succ, hb] at hr
  rw [hr]
  simp

def newOf (h : List api_Step) (k : Nat) : Int := (h[k]?.map fun s => s.Hop.New).getD 0
def kn (h : List api_Step) (l : List Nat) : Int := l.foldl (fun s k => orI .u64 s (newOf h k)) 0

theorem new_get {h : List api_Step} {k : Nat} {s : api_Step} (hs : h[k]? = some s) : s.Hop.New = newOf h k := by unfold newOf; rw [hs]; rfl

theorem known_ref {h : List api_Step} {n w : Nat} (hnh : h.length = n) (hn : n ≤ 20) (hw : w < 2 ^ n) : ref21_Known h (bm n w) = some (kn h (bits w)) := by
  unfold ref21_Known
  rw [bm_len]
  obtain ⟨t, e, ht⟩ := forO_map (ref21_Known_b1 h (bm n w)) (fun i t => t = kn h (cntB w i)) n 0 0 rfl (fun i t _ hi ht => by
    subst ht
    have hi' : i < n := by omega
    have hx := List.getElem?_eq_getElem (show i < h.length by omega)
    refine ⟨kn h (cntB w (i + 1)), ?_, rfl⟩
    simp only [ref21_Known_b1, gat_nat, bm_get hi', hx, Option.bind_some]
    rw [cnt_succ]
    cases hb : w.testBit i
    · simp
    · simp only [if_true, Option.bind_some]
      unfold kn
      rw [List.foldl_append, new_get hx]; rfl)
  rw [show (0 + n) = n by omega, show ((0 : Nat) : Int) = 0 from rfl] at e
  rw [e, ht, show (0 + n) = n by omega, bits_n hn hw]; rfl

theorem castL_get (l : List Nat) (i : Nat) : (castL l)[i]? = (l[i]?).map fun (k : Nat) => (k : Int) := by simp [castL]

theorem known_list {h : List api_Step} {n w i : Nat} (hnh : h.length = n) (hn : n ≤ 20) (hw : w < 2 ^ n) (l : List Int) (hi : l[i]? = some 0) : forO (cause_Known_b2 h i (castL (bits w))) (irange 0 ((castL (bits w)).length : Int)) l = some (l.set i (kn h (bits w))) := by
  have hil := (List.getElem?_eq_some_iff.1 hi).1
  obtain ⟨t, e, ht⟩ := forO_list (cause_Known_b2 h i (castL (bits w))) (bits w) (fun m t => t = l.set i (kn h m)) l (by
    apply List.ext_getElem?
    intro j
    rw [List.getElem?_set]
    by_cases c : i = j
    · subst c; rw [if_pos rfl, if_pos hil, hi]; rfl
    · rw [if_neg c]) (fun j k t hk ht => by
    subst ht
    have hkn : k < n := by
      have hm := List.mem_of_getElem? hk
      rw [bits_n hn hw] at hm
      exact List.mem_range.1 (List.mem_filter.1 hm).1
    have hx := List.getElem?_eq_getElem (show k < h.length by omega)
    refine ⟨_, ?_, rfl⟩
    simp only [cause_Known_b2, gat_nat, castL_get, hk, Option.map_some, Option.bind_some, hx]
    have h1 : (l.set i (kn h ((bits w).take j)))[i]? = some (kn h ((bits w).take j)) := by rw [List.getElem?_set, if_pos rfl, if_pos hil]
    rw [h1]
    simp only [Option.bind_some]
    rw [gput_nat' (by simpa using hil), List.set_set]
    unfold kn
    rw [List.foldl_append, new_get hx]; rfl)
  rw [castL_len]
  rw [e, ht]

theorem ahead_list {paths : List api_Path} {h : List api_Step} {a2 : Int} {n : Nat} (hn : n ≤ 20) {al : List (List Int)} {os : List Nat} (e : cause_look paths h a2 = some (al, true)) (hs : SL n al os) (ho : os.length = n) :
    cause_Ahead paths h a2 = some (os.map fun w => castL (bits w), true) := by
  have hal : al.length = n := by rw [hs.1, ho]
  unfold cause_Ahead
  rw [e]
  simp only [Option.bind_some, Bool.not_true, Bool.false_eq_true, if_false]
  have hg : gmk (al.length : Int) ([] : List Int) = some (List.replicate n []) := by unfold gmk; rw [if_pos (by omega), hal]; simp
  rw [hg]
  simp only [Option.bind_some]
  obtain ⟨t, et, h1, h2⟩ := forO_map (cause_Ahead_b1 (al, true)) (fun i t => t.length = n ∧ ∀ j w, j < i → os[j]? = some w → t[j]? = some (castL (bits w))) n 0 (List.replicate n []) ⟨by simp, fun j w hj => by omega⟩ (fun i t _ hi ⟨h1, h2⟩ => by
    have hio : i < os.length := by omega
    obtain ⟨s, k1, k2⟩ := hs.get hio
    have hit : i < t.length := by omega
    refine ⟨t.set i (castL (bits os[i])), ?_, by simpa using h1, fun j w hj hw => ?_⟩
    · simp only [cause_Ahead_b1, gat_nat, k1, Option.bind_some, list_ok hn k2, List.getElem?_eq_getElem hit]
      rw [gput_nat' hit]; rfl
    · rw [List.getElem?_set]
      by_cases c : i = j
      · subst c
        rw [if_pos rfl, if_pos hit]
        rw [List.getElem?_eq_getElem hio] at hw
        cases hw; rfl
      · rw [if_neg c]; exact h2 j w (by omega) hw)
  rw [show (0 + n) = n by omega, show ((0 : Nat) : Int) = 0 from rfl] at et
  rw [show (al.length : Int) = (n : Int) by rw [hal]]
  rw [et]
  simp only [Option.bind_some, Option.some.injEq, Prod.mk.injEq, and_true]
  apply List.ext_getElem?
  intro j
  by_cases hj : j < n
  · have hw := List.getElem?_eq_getElem (show j < os.length by omega)
    rw [h2 j _ (by omega) hw, List.getElem?_map, hw]; rfl
  · rw [List.getElem?_eq_none (by omega), List.getElem?_eq_none (by simp; omega)]

theorem known_ok {paths : List api_Path} {h : List api_Step} {a2 : Int} {n : Nat} (hnh : h.length = n) (hn : n ≤ 20) {al : List (List Int)} {os : List Nat} (e : cause_look paths h a2 = some (al, true)) (hs : SL n al os) (ho : os.length = n) :
    cause_Known paths h a2 = some (os.map fun w => kn h (bits w), true) := by
  have hal : al.length = n := by rw [hs.1, ho]
  unfold cause_Known
  rw [e]
  simp only [Option.bind_some, Bool.not_true, Bool.false_eq_true, if_false]
  have hg : gmk (al.length : Int) (0 : Int) = some (List.replicate n 0) := by unfold gmk; rw [if_pos (by omega), hal]; simp
  rw [hg]
  simp only [Option.bind_some]
  obtain ⟨t, et, h1, h2, _⟩ := forO_map (cause_Known_b1 h (al, true)) (fun i t => t.length = n ∧ (∀ j w, j < i → os[j]? = some w → t[j]? = some (kn h (bits w))) ∧ ∀ j, i ≤ j → j < n → t[j]? = some 0) n 0 (List.replicate n 0) ⟨by simp, fun j w hj => by omega, fun j _ hj => by rw [List.getElem?_replicate, if_pos hj]⟩ (fun i t _ hi ⟨h1, h2, h3⟩ => by
    have hio : i < os.length := by omega
    obtain ⟨s, k1, k2⟩ := hs.get hio
    have hit : i < t.length := by omega
    refine ⟨t.set i (kn h (bits os[i])), ?_, by simpa using h1, fun j w hj hw => ?_, fun j hj hjn => ?_⟩
    · simp only [cause_Known_b1, gat_nat, k1, Option.bind_some, list_ok hn k2]
      rw [known_list hnh hn k2.1 t (h3 i (Nat.le_refl _) (by omega))]; rfl
    · rw [List.getElem?_set]
      by_cases c : i = j
      · subst c
        rw [if_pos rfl, if_pos hit]
        rw [List.getElem?_eq_getElem hio] at hw
        cases hw; rfl
      · rw [if_neg c]; exact h2 j w (by omega) hw
    · rw [List.getElem?_set, if_neg (by omega)]; exact h3 j (by omega) hjn)
  rw [show (0 + n) = n by omega, show ((0 : Nat) : Int) = 0 from rfl] at et
  rw [show (al.length : Int) = (n : Int) by rw [hal]]
  rw [et]
  simp only [Option.bind_some, Option.some.injEq, Prod.mk.injEq, and_true]
  apply List.ext_getElem?
  intro j
  by_cases hj : j < n
  · have hw := List.getElem?_eq_getElem (show j < os.length by omega)
    rw [h2 j _ (by omega) hw, List.getElem?_map, hw]; rfl
  · rw [List.getElem?_eq_none (by omega), List.getElem?_eq_none (by simp; omega)]
end Go.AM
