import Derived.Test.YtjdaaclkihjjnaaDoorTD5
/-
  The controller and the document's: the statement CtrlRuns.
-/
set_option linter.unusedVariables false
set_option linter.unusedSimpArgs false
namespace Go.AM
open Go

theorem index_ok (l : List Int) (s : Int) : slices_Index_api_Set l s = some (ix (l.findIdx? fun x => x == s)) := by
  unfold slices_Index_api_Set
  rw [find_run (fun x => x == s) l _ fun j x hj => by
    simp only [slices_Index_api_Set_b1, gat_nat, hj, Option.bind_some]
    by_cases c : x = s
    · subst c; simp
    · have : ¬ s = x := fun e => c e.symm
      simp [c, this]]
  cases l.findIdx? _ <;> rfl

theorem tag_ok (n : api_Nes) (s : Int) : nes_Tag n s = some (IntKind.u16.wrap (imax (ix (n.Sets.findIdx? fun x => x == s)) 0), decide (ix (n.Sets.findIdx? fun x => x == s) ≥ 0)) := by
  unfold nes_Tag; rw [index_ok]; rfl

/-- Is a set one of the structure's? -/
def isSet (S : List Int) (s : Int) : Bool := (S.findIdx? fun x => x == s).isSome

theorem ix_isSome (o : Option Nat) : decide (ix o ≥ 0) = o.isSome := by cases o <;> simp [ix]
theorem ix_lt0 (o : Option Nat) : decide (ix o < 0) = !o.isSome := by
  cases o with
  | none => rfl
  | some a => show decide ((a : Int) < 0) = false; simp

theorem isSet_mem {S : List Int} {s : Int} (h : s ∈ S) : isSet S s = true := by
  unfold isSet
  rw [List.findIdx?_isSome]
  simp [h]

theorem fits_ok (c : ctrl_Ctrl) (s : Int) : ctrl_Ctrl_fits c s = some (isSet c.n_.Sets s) := by
  unfold ctrl_Ctrl_fits; rw [tag_ok]
  simp only [Option.bind_some, ix_isSome]; rfl

theorem has_ok (c : ctrl_Ctrl) (i : Int) : ctrl_Ctrl_has c i = some (decide (0 ≤ i ∧ i < c.peers.length)) := by
  unfold ctrl_Ctrl_has
  by_cases h1 : 0 ≤ i <;> by_cases h2 : i < c.peers.length <;> simp [h1, h2]

theorem filter_or {α : Type} (p q : α → Bool) : ∀ l : List α, (l.filter fun x => p x || q x).length = (l.filter p).length + (l.filter fun x => q x && !p x).length
  | [] => rfl
  | x :: l => by
    have := filter_or p q l
    simp only [List.filter_cons]
    cases hp : p x <;> cases hq : q x <;> simp [this] <;> omega

theorem bits_or (x y : Nat) : (bits (x ||| y)).length = (bits x).length + (bits (sub64 y x)).length := by
  unfold bits
  have := filter_or (fun e => x.testBit e) (fun e => y.testBit e) (List.range 64)
  simp only [Nat.testBit_or, sub64_bit]
  exact this

/-- What holds of a controller whose known set is K. -/
structure RInv (n : api_Nes) (c : ctrl_Ctrl) (K : Nat) : Prop where
  sets : c.n_ = n
  known : c.known = K
  lt : K < 2 ^ 64
  peers : c.peers.length ≤ 12
  u : ∀ p ∈ c.peers, U64 p.heard ∧ U64 p.told
  is : isSet n.Sets K = true
  ord : c.order.length = (bits K).length

/-- The document's controller of it. -/
def refOf (c : ctrl_Ctrl) : ref18_Ctrl := ref18_Ctrl.mk c.n_ c.known (c.peers.map (·.heard)) (c.peers.map (·.told)) c.order

theorem order18 {K x : Nat} (hK : K < 2 ^ 64) (hx : x < 2 ^ 64) (w : ref18_Ctrl) (hw : w.Known = K) (l : List Int) (hl : l.length ≤ 64) : forO (ref18_Ctrl_Hear_b1 w (x : Int)) (irange 0 64) l = some (l ++ castL (bits (sub64 x K))) := by
  have := forO_map (ref18_Ctrl_Hear_b1 w (x : Int)) (fun j m => m = l ++ castL ((List.range j).filter fun e => (sub64 x K).testBit e)) 64 0 l (by simp [castL]) (fun j s _ hj hs => by
    subst hs
    have h1 := List.length_filter_le (fun e => (sub64 x K).testBit e) (List.range j)
    simp only [ref18_Ctrl_Hear_b1, hasN hx (show j < 64 by omega), hw, hasN hK (show j < 64 by omega), Option.bind_some]
    rw [List.range_succ, List.filter_append]
    have e1 : ([j].filter fun e => (sub64 x K).testBit e) = if (sub64 x K).testBit j then [j] else [] := by
      cases h : (sub64 x K).testBit j <;> simp [h]
    rw [e1, sub64_bit]
    cases hb : x.testBit j
    · exact ⟨_, rfl, by simp⟩
    · cases hc : K.testBit j
      · simp only [if_true, Option.bind_some, Bool.not_false]
        rw [gapp_some (by simp [castL] at h1 ⊢; omega)]
        exact ⟨_, rfl, by simp [castL]⟩
      · exact ⟨_, rfl, by simp⟩)
  obtain ⟨s, e, rfl⟩ := this
  rw [show (irange 0 64) = irange ((0 : Nat) : Int) ((0 + 64 : Nat) : Int) from rfl, e]
  rfl

theorem map_set {α β : Type} (f : α → β) (l : List α) (i : Nat) (x : α) : (l.set i x).map f = (l.map f).set i (f x) := by
  rw [List.map_set]

theorem map_set_same {α β : Type} (f : α → β) (l : List α) (i : Nat) (x : α) (h : ∀ y, l[i]? = some y → f y = f x) : (l.set i x).map f = l.map f := by
  rw [List.map_set]
  apply List.ext_getElem?
  intro j
  rw [List.getElem?_set]
  split
  · rename_i e
    subst e
    split
    · rename_i hi
      have hi' : i < l.length := by simpa using hi
      rw [List.getElem?_map, List.getElem?_eq_getElem hi']
      simp [h _ (List.getElem?_eq_getElem hi')]
    · rename_i hi
      rw [List.getElem?_eq_none (by simpa using hi)]
  · rfl

theorem hear_both {n : api_Nes} {c : ctrl_Ctrl} {K x : Nat} (h : RInv n c K) (hx : x < 2 ^ 64) (i : Int) :
    ∃ f c' K', ctrl_Ctrl_Hear c i x = some (f, c') ∧ ref18_Ctrl_Hear (refOf c) i x = some (refOf c', f) ∧ RInv n c' K' := by
  unfold ctrl_Ctrl_Hear ref18_Ctrl_Hear
  simp only [has_ok, fits_ok, h.sets, h.known, Option.bind_some, orI_nat h.lt hx, refOf, List.length_map, tag12, ix_lt0]
  by_cases hi : 0 ≤ i ∧ i < c.peers.length
  · rw [decide_eq_true hi, if_neg (show ¬ ((decide (i < 0)) || (decide (i ≥ (c.peers.length : Int)))) = true by simp; omega)]
    simp only [Bool.not_true, Bool.false_eq_true, if_false]
    have e1 : (n.Sets.findIdx? fun y => y == (x : Int)).isSome = isSet n.Sets x := rfl
    have e2 : (n.Sets.findIdx? fun y => y == ((K ||| x : Nat) : Int)).isSome = isSet n.Sets ((K ||| x : Nat) : Int) := rfl
    rw [e1, e2]
    cases c1 : isSet n.Sets x
    · exact ⟨_, _, K, rfl, by simp [← h.known, ← h.sets, refOf], h⟩
    cases c2 : isSet n.Sets ((K ||| x : Nat) : Int)
    · exact ⟨_, _, K, rfl, by simp [← h.known, ← h.sets, refOf], h⟩
    have hor := Nat.or_lt_two_pow h.lt hx
    have b1 := bits_len K
    have b2 := bits_len (sub64 x K)
    have hO := h.ord
    have hpl := h.peers
    obtain ⟨k, rfl⟩ : ∃ k : Nat, i = k := ⟨i.toNat, by omega⟩
    have hk : k < c.peers.length := by omega
    simp only [Bool.not_true, Bool.false_eq_true, if_false, andNotI_nat hx h.lt, events_list (sub64_lt hx K), Option.bind_some]
    rw [gapp_some (by rw [castL_len]; omega), gapp_some (by simp; omega)]
    simp only [Option.bind_some, gat_nat, List.getElem?_eq_getElem hk, List.nil_append]
    rw [order18 h.lt hx _ rfl _ (by omega), gapp_some (by simp; omega)]
    simp only [Option.bind_some, List.nil_append, gat_nat, List.getElem?_map, List.getElem?_eq_getElem hk, Option.map_some]
    rw [gput_lt _ (by omega) (by omega), gput_lt _ (by omega) (by simp; omega)]
    simp only [Option.bind_some, Int.toNat_natCast]
    refine ⟨_, _, K ||| x, rfl, ?_, ⟨rfl, rfl, hor, by simpa using h.peers, fun p hp => ?_, c2, by simp only [List.length_append, castL_len]; rw [bits_or, hO]⟩⟩
    · simp only [map_set, Option.some.injEq, Prod.mk.injEq, and_true]
      congr 1
      rw [← map_set, map_set_same]
      intro y hy
      rw [List.getElem?_eq_getElem hk] at hy
      cases hy; rfl
    · rcases List.mem_or_eq_of_mem_set hp with hp | rfl
      · exact h.u p hp
      · exact ⟨.of hx, (h.u _ (List.getElem_mem hk)).2⟩
  · rw [decide_eq_false hi, if_pos (show ((decide (i < 0)) || (decide (i ≥ (c.peers.length : Int)))) = true by simp; omega)]
    exact ⟨_, _, K, rfl, by simp [← h.known, ← h.sets, refOf], h⟩

theorem tell_both {n : api_Nes} {c : ctrl_Ctrl} {K : Nat} (h : RInv n c K) (i : Int) :
    ∃ s f c', ctrl_Ctrl_Tell c i = some (s, f, c') ∧ ref18_Ctrl_Tell (refOf c) i = some (refOf c', s, f) ∧ RInv n c' K := by
  unfold ctrl_Ctrl_Tell ref18_Ctrl_Tell
  simp only [has_ok, Option.bind_some, refOf, List.length_map]
  have hpl := h.peers
  by_cases hi : 0 ≤ i ∧ i < c.peers.length
  · rw [decide_eq_true hi, if_neg (show ¬ ((decide (i < 0)) || (decide (i ≥ (c.peers.length : Int)))) = true by simp; omega)]
    obtain ⟨k, rfl⟩ : ∃ k : Nat, i = k := ⟨i.toNat, by omega⟩
    have hk : k < c.peers.length := by omega
    simp only [Bool.not_true, Bool.false_eq_true, if_false, gat_nat, List.getElem?_eq_getElem hk, Option.bind_some]
    rw [gapp_some (by simp; omega)]
    simp only [Option.bind_some, List.nil_append, gat_nat, List.getElem?_map, List.getElem?_eq_getElem hk, Option.map_some]
    rw [gput_lt _ (by omega) (by omega), gput_lt _ (by omega) (by simp; omega)]
    simp only [Option.bind_some, Int.toNat_natCast]
    refine ⟨_, _, _, rfl, ?_, ⟨h.sets, h.known, h.lt, by simpa using h.peers, fun p hp => ?_, h.is, h.ord⟩⟩
    · simp only [map_set, Option.some.injEq, Prod.mk.injEq, and_true]
      congr 1
      rw [← map_set, map_set_same]
      intro y hy
      rw [List.getElem?_eq_getElem hk] at hy
      cases hy; rfl
    · rcases List.mem_or_eq_of_mem_set hp with hp | rfl
      · exact h.u p hp
      · exact ⟨(h.u _ (List.getElem_mem hk)).1, by rw [h.known]; exact .of h.lt⟩
  · rw [decide_eq_false hi, if_pos (show ((decide (i < 0)) || (decide (i ≥ (c.peers.length : Int)))) = true by simp; omega)]
    exact ⟨_, _, _, rfl, rfl, h⟩

theorem sub0 (x y : Nat) : (sub64 x y = 0) ↔ (x &&& y = x) := by
  constructor
  · intro h
    apply Nat.eq_of_testBit_eq
    intro i
    have := congrArg (fun z => z.testBit i) h
    simp only [sub64_bit, Nat.zero_testBit] at this
    rw [Nat.testBit_and]
    cases hx : x.testBit i <;> cases hy : y.testBit i <;> simp [hx, hy] at this ⊢
  · intro h
    unfold sub64
    rw [h, Nat.xor_self]

theorem owes_both {n : api_Nes} {c : ctrl_Ctrl} {K : Nat} (h : RInv n c K) (i : Int) : ∃ b, ctrl_Ctrl_Owes c i = some b ∧ ref18_Ctrl_Owes (refOf c) i = some b := by
  unfold ctrl_Ctrl_Owes ref18_Ctrl_Owes
  simp only [has_ok, Option.bind_some, refOf, List.length_map, h.known]
  by_cases h0 : i ≥ 0
  · by_cases h1 : i < c.peers.length
    · obtain ⟨k, rfl⟩ : ∃ k : Nat, i = k := ⟨i.toNat, by omega⟩
      have hk : k < c.peers.length := by omega
      obtain ⟨⟨a, ha, ha2⟩, b, hb, hb2⟩ := h.u _ (List.getElem_mem hk)
      rw [decide_eq_true (show (0 : Int) ≤ (k : Int) ∧ (k : Int) < c.peers.length from ⟨h0, h1⟩), decide_eq_true h0, decide_eq_true h1]
      have hor := Nat.or_lt_two_pow hb2 ha2
      simp only [if_true, gat_nat, List.getElem?_eq_getElem hk, List.getElem?_map, Option.map_some, Option.bind_some, ha, hb, orI_nat hb2 ha2, events_In, andNotI_nat h.lt hor, andI_nat h.lt hor]
      refine ⟨_, rfl, ?_⟩
      congr 1
      have e1 : (((sub64 K (b ||| a) : Nat) : Int) == 0) = decide (sub64 K (b ||| a) = 0) := by rw [Bool.eq_iff_iff]; simp
      have e2 : (((K &&& (b ||| a) : Nat) : Int) == (K : Int)) = decide (K &&& (b ||| a) = K) := by rw [Bool.eq_iff_iff]; simp; omega
      rw [e1, bne, e2]
      congr 1
      exact decide_eq_decide.2 (sub0 _ _).symm
    · rw [decide_eq_false (show ¬ ((0 : Int) ≤ i ∧ i < c.peers.length) by omega), decide_eq_true h0, decide_eq_false h1]
      exact ⟨_, rfl, rfl⟩
  · rw [decide_eq_false (show ¬ ((0 : Int) ≤ i ∧ i < c.peers.length) by omega), decide_eq_false h0]
    exact ⟨_, rfl, rfl⟩

theorem tmod_range {a k : Int} (hk : 0 < k) (h : k ≤ 1000) : ∃ m : Nat, (IntKind.i64.wrap (a.tmod k + k)).tmod k = m ∧ (m : Int) < k := by
  have h1 : a.tmod k < k := Int.tmod_lt_of_pos a hk
  have h2 : -k < a.tmod k := by
    have e := Int.natAbs_tmod a k
    have := Nat.mod_lt a.natAbs (show 0 < k.natAbs by omega)
    omega
  rw [w_i64 (by omega) (by omega)]
  have h3 : 0 ≤ (a.tmod k + k).tmod k := Int.tmod_nonneg k (by omega)
  have h4 : (a.tmod k + k).tmod k < k := Int.tmod_lt_of_pos _ hk
  exact ⟨((a.tmod k + k).tmod k).toNat, by omega, by omega⟩

theorem awake18 : law18_awake = some true := by decide +kernel

theorem order_ok {n : api_Nes} {c : ctrl_Ctrl} {K : Nat} (h : RInv n c K) : ctrl_Ctrl_Order c = some (c.order, c) := by
  have := bits_len K
  have := h.ord
  unfold ctrl_Ctrl_Order slices_Clone_int
  rw [gapp_some (by simp; omega)]
  rfl

theorem ctrl_eta (c : ctrl_Ctrl) : ctrl_Ctrl.mk (api_Nes.mk c.n_.Events c.n_.Sets c.n_.States) c.known c.peers c.order = c := rfl

/-- Behind each act all that one may ask is answered alike. -/
theorem asks_ok {n : api_Nes} (hS : NesOk n.Events n.Sets n.States) {c : ctrl_Ctrl} {K : Nat} (h : RInv n c K) : forR (law18_CtrlRuns_b2 (refOf c) (c.order, c)) (irange 0 (c.order.length : Int)) () = some (.done ()) ∧
    (∃ z, whR (law18_CtrlRuns_b3 (refOf c) (c.order, c)) FUEL (-1) = some (.done z)) ∧ (∃ t, ctrl_Ctrl_Tag c = some t ∧ ref12_Tag n K = some (IntKind.i64.wrap t)) := by
  refine ⟨?_, ?_, ?_⟩
  · rw [any_run (fun _ => false) (Br.ret false) c.order _ (fun j x hj => by
      simp only [law18_CtrlRuns_b2, gat_nat, hj, refOf, Option.bind_some, bne_self_eq_false, Bool.false_eq_true, if_false])]
    simp [exOf]
  · have hp := h.peers
    have key : ∀ (d f : Nat) (i : Int), -1 ≤ i → (c.peers.length : Int) + 1 ≤ i + d → d < f → ∃ z, whR (law18_CtrlRuns_b3 (refOf c) (c.order, c)) f i = some (.done z) := by
      intro d
      induction d with
      | zero =>
        intro f i h0 h1 hf
        obtain ⟨f, rfl⟩ : ∃ g, f = g + 1 := ⟨f - 1, by omega⟩
        rw [whR_step]
        simp only [law18_CtrlRuns_b3]
        rw [if_neg (by simp [refOf]; omega)]
        exact ⟨_, rfl⟩
      | succ d ih =>
        intro f i h0 h1 hf
        obtain ⟨f, rfl⟩ : ∃ g, f = g + 1 := ⟨f - 1, by omega⟩
        rw [whR_step]
        simp only [law18_CtrlRuns_b3]
        by_cases c0 : i ≤ c.peers.length
        · rw [if_pos (by simpa [refOf] using c0)]
          obtain ⟨b, e1, e2⟩ := owes_both h i
          simp only [e1, e2, Option.bind_some, beq_self_eq_true, Bool.not_true, Bool.false_eq_true, if_false]
          rw [w_i64 (by omega) (by omega)]
          exact ih f (i + 1) (by omega) (by omega) (by omega)
        · rw [if_neg (by simpa [refOf] using c0)]
          exact ⟨_, rfl⟩
    obtain ⟨m, hm⟩ := FUEL_big 100 (by omega)
    exact key (c.peers.length + 2) FUEL (-1) (by omega) (by omega) (by omega)
  · unfold ctrl_Ctrl_Tag
    rw [tag_ok, tag12, h.sets, h.known]
    refine ⟨_, rfl, ?_⟩
    have his := h.is
    unfold isSet at his
    cases hf : n.Sets.findIdx? fun x => x == (K : Int) with
    | none => rw [hf] at his; cases his
    | some j =>
      obtain ⟨hj, _⟩ := List.findIdx?_eq_some_iff_getElem.1 hf
      have := hS.le
      simp only [ix, Option.some.injEq]
      have e1 : imax (j : Int) 0 = j := by unfold imax; split <;> omega
      rw [e1, w_u16, w_i64 (by omega) (by omega)]
      omega

def QInv (n : api_Nes) (q : List api_Event × List Int × List (List Int) × Int × List ctrl_peer × List Int × ref18_Ctrl) : Prop :=
  ∃ K, RInv n (ctrl_Ctrl.mk (api_Nes.mk q.1 q.2.1 q.2.2.1) q.2.2.2.1 q.2.2.2.2.1 q.2.2.2.2.2.1) K ∧ q.2.2.2.2.2.2 = refOf (ctrl_Ctrl.mk (api_Nes.mk q.1 q.2.1 q.2.2.1) q.2.2.2.1 q.2.2.2.2.1 q.2.2.2.2.2.1)

theorem runs_b1 {n : api_Nes} {a2 : List law18_Act} (hS : NesOk n.Events n.Sets n.States) (hu : ∀ y ∈ a2, U64 y.S) {i : Nat} (hi : i < a2.length) {q : List api_Event × List Int × List (List Int) × Int × List ctrl_peer × List Int × ref18_Ctrl} (hq : QInv n q) :
    ∃ q', law18_CtrlRuns_b1 a2 (n, 0) i q = some (.next q') ∧ QInv n q' := by
  obtain ⟨y10, y11, y12, i13, l14, l15, y17⟩ := q
  obtain ⟨K, h, hw⟩ := hq
  simp only at h hw
  subst hw
  have hle := hS.le
  have hpos := hS.pos
  simp only [law18_CtrlRuns_b1, gat_nat, List.getElem?_eq_getElem hi, Option.bind_some]
  -- the act
  have act : ∃ y : law18_Act, ((if (a2[i].What == 0) = true then (remI a2[i].N (n.Sets.length : Int)).bind fun q25 => (remI (IntKind.i64.wrap (q25 + (n.Sets.length : Int))) (n.Sets.length : Int)).bind fun q26 => (gat n.Sets q26).bind fun x27 => some (law18_Act.mk a2[i].What a2[i].I a2[i].N x27) else some a2[i]) : Option law18_Act) = some y ∧ U64 y.S := by
    by_cases c : (a2[i].What == 0) = true
    · obtain ⟨m, hm, hmk⟩ := tmod_range (a := a2[i].N) (k := (n.Sets.length : Int)) (by omega) (by omega)
      have hml : m < n.Sets.length := by omega
      rw [if_pos c, remI, if_neg (by omega)]
      simp only [Option.bind_some]
      rw [remI, if_neg (by omega), hm]
      simp only [Option.bind_some, gat_nat, List.getElem?_eq_getElem hml]
      exact ⟨_, rfl, hS.u _ (List.getElem_mem hml)⟩
    · rw [if_neg c]; exact ⟨_, rfl, hu _ (List.getElem_mem hi)⟩
  obtain ⟨y, e1, x, hx, hx2⟩ := act
  rw [e1]
  simp only [Option.bind_some]
  have fin : ∀ (c' : ctrl_Ctrl) (K' : Nat), RInv n c' K' → ∃ q',
      ((ctrl_Ctrl_Order c').bind fun r46 => (ctrl_Ctrl_Known r46.2).bind fun r47 =>
        ((if (r47 != (refOf c').Known) = true then some true else (if ((r46.1.length : Int) != ((refOf c').Order.length : Int)) = true then some true else (ctrl_Ctrl_Tag r46.2).bind fun r50 => (ref12_Tag n (refOf c').Known).bind fun r51 => some ((IntKind.i64.wrap r50) != r51)))).bind fun y52 =>
        (if y52 = true then some (Br.ret false) else (forR (law18_CtrlRuns_b2 (refOf c') r46) (irange 0 (r46.1.length : Int)) ()).bind fun q72 => match q72 with
          | .ret r => some r
          | .done () => (whR (law18_CtrlRuns_b3 (refOf c') r46) FUEL (-1)).bind fun q71 => match q71 with
            | .ret r => some r
            | .done z70 => some (Br.next (r46.2.n_.Events, r46.2.n_.Sets, r46.2.n_.States, r46.2.known, r46.2.peers, r46.2.order, refOf c')))) = some (Br.next q') ∧ QInv n q' := by
    intro c' K' h'
    obtain ⟨cn, ck, cp, co⟩ := c'
    have hck : ck = (K' : Int) := h'.known
    subst hck
    obtain ⟨g1, ⟨z, g2⟩, t, g3, g4⟩ := asks_ok hS h'
    have hk : (refOf (ctrl_Ctrl.mk cn K' cp co)).Known = K' := rfl
    have ho : (refOf (ctrl_Ctrl.mk cn K' cp co)).Order = co := rfl
    simp only [order_ok h', Option.bind_some, ctrl_Ctrl_Known, hk, ho, bne_self_eq_false, Bool.false_eq_true, if_false, g3, g4, g1, g2]
    exact ⟨_, rfl, K', h', rfl⟩
  by_cases c : (y.What == 2) = true
  · rw [if_pos c]
    obtain ⟨s, f, c', e2, e3, h'⟩ := tell_both h y.I
    simp only [e2, e3, Option.bind_some, bne_self_eq_false, Bool.or_self, Bool.false_eq_true, if_false, ctrl_eta]
    exact fin c' K h'
  · rw [if_neg c, hx]
    obtain ⟨f, c', K', e2, e3, h'⟩ := hear_both h hx2 y.I
    simp only [e2, e3, Option.bind_some, bne_self_eq_false, Bool.false_eq_true, if_false, ctrl_eta]
    exact fin c' K' h'

theorem law_CtrlRuns (a0 : api_Program) (a1 : Int) (a2 : List law18_Act) (hu : ∀ y ∈ a2, U64 y.S) : law18_CtrlRuns a0 a1 a2 = some true := by
  unfold law18_CtrlRuns
  rw [awake18]
  simp only [Option.bind_some, Bool.not_true, Bool.false_eq_true, if_false]
  obtain ⟨b, hb, hs⟩ := small_ok (api_Program.mk a0.Init (api_Pol.mk 0 0 0 []) a0.Rules)
  rw [hb]
  simp only [Option.bind_some]
  by_cases c : ((!b) || decide ((a2.length : Int) > 60)) = true
  · rw [if_pos c]
  rw [if_neg c]
  simp at c
  obtain ⟨n, f, e, hn⟩ := of_total (api_Program.mk a0.Init (api_Pol.mk 0 0 0 []) a0.Rules) rfl (hs c.1)
  rw [e]
  simp only [Option.bind_some]
  by_cases c2 : ¬ f = 0
  · rw [if_pos (by simpa using c2)]
  have c2 : f = 0 := by simpa using c2
  subst c2
  rw [if_neg (by simp)]
  have hS := hn rfl
  obtain ⟨k, hk, hk2⟩ : ∃ k : Nat, imin (imax a1 0) 12 = k ∧ k ≤ 12 := by
    have h1 : 0 ≤ imax a1 0 := by unfold imax; split <;> omega
    have h2 : 0 ≤ imin (imax a1 0) 12 ∧ imin (imax a1 0) 12 ≤ 12 := by unfold imin; split <;> omega
    exact ⟨(imin (imax a1 0) 12).toNat, by omega, by omega⟩
  have hg : ∀ {α : Type} (z : α), gmk (k : Int) z = some (List.replicate k z) := fun z => by unfold gmk; rw [if_pos (by omega)]; simp
  have hnew : ctrl_New n a1 = some (ctrl_Ctrl.mk n 0 (List.replicate k (ctrl_peer.mk 0 0)) []) := by unfold ctrl_New; rw [hk, hg]; rfl
  have hnew2 : ref18_New n a1 = some (refOf (ctrl_Ctrl.mk n 0 (List.replicate k (ctrl_peer.mk 0 0)) [])) := by unfold ref18_New; rw [hk, hg]; simp [refOf]
  rw [hnew, hnew2]
  simp only [Option.bind_some]
  have h0 : QInv n (n.Events, n.Sets, n.States, 0, List.replicate k (ctrl_peer.mk 0 0), [], refOf (ctrl_Ctrl.mk n 0 (List.replicate k (ctrl_peer.mk 0 0)) [])) := by
    refine ⟨0, ⟨rfl, rfl, by omega, by simpa using hk2, fun p hp => ?_, isSet_mem (List.mem_of_getElem? hS.zero), rfl⟩, rfl⟩
    have := List.eq_of_mem_replicate hp
    subst this
    exact ⟨.of (x := 0) (by omega), .of (x := 0) (by omega)⟩
  have := forR_keep (law18_CtrlRuns_b1 a2 (n, 0)) a2.length (QInv n) (fun _ => False) _ h0 (fun i hi q hq => by
    obtain ⟨q', e, h⟩ := runs_b1 hS hu hi hq
    exact .inl ⟨q', e, h⟩)
  rcases this with ⟨q, e, _⟩ | ⟨r, _, h⟩
  · rw [e]; rfl
  · exact h.elim

end Go.AM
