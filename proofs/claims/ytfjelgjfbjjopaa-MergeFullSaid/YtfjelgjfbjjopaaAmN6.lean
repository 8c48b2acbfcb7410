import Derived.Test.YtfjelgjfbjjopaaAmN5
import Derived.Laws.Strings
/-
  AM, part 31: small rules that printed walks lean on.
-/
set_option linter.unusedVariables false
set_option linter.unusedSectionVars false
set_option linter.unusedSimpArgs false
namespace Go.AM
open Go Go.RowKit
variable [Glob]

section
variable {P : Program} {N na : Nat} {A : Nat → Nat → Prop} {μ μ' : Nat → Option Place} {T T' : Nat → V} {σ σ' : Store} {w w' : World} {a : Act} {n n' : Nat} {l : List AInstr} {dst : Option Nat} {op : AOp} {K : S → Prop}

theorem mapE {α β : Type} {o : Option α} {g : α → β} {x : β} (h : o.map g = some x) : ∃ y, o = some y ∧ g y = x := by
  cases o with
  | none => cases h
  | some y => exact ⟨y, rfl, Option.some.inj h⟩

theorem BN.vars {ρ : Nat → Nat} {n0 : Nat} {vs us : List V} (h : VNs ρ n0 vs us) : BN ρ n0 (.var vs) (.var us) := .var vs us h.all.1 h.all.2

theorem VN.aggs {ρ : Nat → Nat} {n0 : Nat} {vs us : List V} (h : VNs ρ n0 vs us) : VN ρ n0 (.agg vs) (.agg us) := .agg vs us h.all.1 h.all.2
/-- An empty slice in a slot becomes a list of one's own. -/
theorem Norm.nil1 {s : S} (t : Nat) (m : Bool) (k : Option Nat) (h : s.T t = .d .nils) : Norm na s ⟨upd s.T t (.loc s.n 0 0), upd s.σ s.n (some (.lst m k [])), s.n + 1⟩ := by
  refine Norm.nil _ m k fun i => ?_
  by_cases e : i = t
  · subst e; exact .inr ⟨upd_same _ _ _, h⟩
  · exact .inl (upd_ne _ _ e)

theorem owns_var {cs cs' : List V} {pl : Option Place} {b o : Nat} (h : Blk.ownsAt (.var cs) pl b o) : Blk.ownsAt (.var cs') pl b o := by
  cases pl with
  | none => exact h
  | some p => cases p <;> exact h

theorem var_full {A : Nat → Nat → Prop} {μ : Nat → Option Place} {σ : Store} {id : Nat} {cs cs' : List V} (hid : σ id = some (.var cs)) : full A μ (upd σ id (some (.var cs'))) = full A μ σ := by
  funext b o
  apply propext
  unfold full owns
  refine or_congr ⟨?_, ?_⟩ Iff.rfl
  · rintro ⟨j, blk, h1, h2⟩
    by_cases e : j = id
    · subst e
      rw [upd_same] at h1; cases h1
      exact ⟨j, _, hid, owns_var h2⟩
    · rw [upd_ne _ _ e] at h1; exact ⟨j, blk, h1, h2⟩
  · rintro ⟨j, blk, h1, h2⟩
    by_cases e : j = id
    · subst e
      rw [hid] at h1; cases h1
      exact ⟨j, _, upd_same _ _ _, owns_var h2⟩
    · exact ⟨j, blk, by rw [upd_ne _ _ e]; exact h1, h2⟩

theorem Guar.varL {μ : Nat → Option Place} {σ : Store} {w : World} {id : Nat} {cs cs' : List V} (hid : σ id = some (.var cs)) : Guar μ σ w μ (upd σ id (some (.var cs'))) w where
  os := rfl
  tape := rfl
  output := rfl
  size := Nat.le_refl _
  block _ _ _ := rfl
  cells _ c _ _ hc := ⟨c, hc, rfl, fun _ _ => rfl⟩
  own b o ho := by
    have : full (fun _ _ => False) μ (upd σ id (some (.var cs'))) b o := .inl ho
    rw [var_full hid] at this
    exact .inl (this.elim (fun h => h) (fun h => h.elim))
  ownB b ho := by
    obtain ⟨j, blk, k, h1, h2⟩ := ho
    by_cases e : j = id
    · subst e; exact .inl ⟨j, _, k, hid, h2⟩
    · rw [upd_ne _ _ e] at h1; exact .inl ⟨j, blk, k, h1, h2⟩
  grow _ _ h := h

/-- Nil in a variable of one's own, where there is an empty list's name. -/
theorem Norm.nilat {s : S} (id j m : Nat) {cs : List V} {blk : Blk} (hid : s.σ id = some (.var cs)) (hj : cs[j]? = some (.d .nils)) (hm : s.σ m = some blk) : Norm na s ⟨s.T, upd s.σ id (some (.var (cs.set j (.loc m 0 0)))), s.n⟩ := by
  intro N A μ a w ⟨hs, hfr⟩
  have hp := BRel.placed (hs.store.blks m _ hm)
  have hst : StoreSim A μ (upd s.σ id (some (.var (cs.set j (.loc m 0 0))))) w := by
    refine hs.store.update (Guar.varL hid) id (fun q x hq h => by rwa [upd_ne _ _ hq] at h) (fun q hq => rfl) (fun x hx => ?_) (fun _ _ _ _ _ _ _ => rfl) (fun b k' x hx hp' => ⟨fun o => hs.store.amb id _ b k' hid hp' o, fun q y k'' hq hy hq' => hq ?_⟩)
    · simp only [upd_same, Option.some.injEq] at hx
      subst hx
      rw [var_full hid]
      obtain ⟨b, c, ty, fr, h1, h2, h3, h4, h5⟩ := hs.store.blks id _ hid
      refine ⟨b, c, ty, fr, h1, h2, h3, by simpa using h4, fun i x v hx hv => ?_⟩
      rw [List.getElem?_set] at hx
      split at hx
      · rename_i e
        subst e
        split at hx
        · cases hx
          obtain ⟨g1, g2⟩ := h5 j _ v hj hv
          refine ⟨g1, ?_⟩
          cases g2 with | d _ _ hd => cases hd; exact .loc0 _ _ _ hp
        · cases hx
      · exact h5 i x v hx hv
    · rw [upd_ne _ _ hq] at hy
      exact hs.store.inj q id y _ b k'' k' hy hid hq' hp'
  refine ⟨μ, ⟨⟨hs.size, hs.defers, fun i => ?_, hst⟩, hfr⟩, (Guar.varL hid).ng⟩
  show VRel μ (full A μ (upd s.σ id (some (.var (cs.set j (.loc m 0 0)))))) w (s.T i) _
  rw [var_full hid]
  exact hs.tmps i

theorem Norm.nilcell {s : S} (id j : Nat) (m : Bool) (k : Option Nat) {cs : List V} (hid : s.σ id = some (.var cs)) (hj : cs[j]? = some (.d .nils)) (hlt : id ≠ s.n) : Norm na s ⟨s.T, upd (upd s.σ s.n (some (.lst m k []))) id (some (.var (cs.set j (.loc s.n 0 0)))), s.n + 1⟩ :=
  Norm.trans (Norm.nil s.T m k fun i => .inl rfl) (Norm.nilat id j s.n (s := ⟨s.T, upd s.σ s.n (some (.lst m k [])), s.n + 1⟩) ((upd_ne _ _ hlt).trans hid) hj (upd_same _ _ _))

def updL (T : Nat → V) (ts : List Nat) (v : V) : Nat → V := fun i => if ts.contains i then v else T i

/-- A list in some slots becomes plain data. -/
theorem Norm.imm1 {s : S} (ts : List Nat) {id : Nat} {m : Bool} {k : Option Nat} {α : Type} {xs : List α} {e : α → D} (hid : s.σ id = some (.lst m k (xs.map e))) (h0 : ∀ t ∈ ts, ∃ len, s.T t = .loc id 0 len ∧ len = xs.length) : Norm na s ⟨updL s.T ts (.d (.vec k (xs.map e))), upd s.σ id none, s.n⟩ := by
  generalize hels : xs.map e = els at *
  have h : ∀ t ∈ ts, ∃ len, s.T t = .loc id 0 len ∧ len = els.length := fun t ht => by
    obtain ⟨len, h1, h2⟩ := h0 t ht
    exact ⟨len, h1, by rw [h2, ← hels, List.length_map]⟩
  refine Norm.imm _ hid fun i => ?_
  unfold updL
  by_cases e : ts.contains i = true
  · simp only [e, if_true]
    obtain ⟨len, h1, rfl⟩ := h i (by simpa using e)
    rw [h1]
    have := Imm.loc (id := id) (k := k) (els := els) 0 els.length (by omega)
    simpa using this
  · have e' : ts.contains i = false := by simpa using e
    simp only [e', Bool.false_eq_true, if_false]
    exact .refl _

/-! more operations -/

section
variable {α : Type} {e : α → D} {x y : AX} {k kb : Option Nat}

theorem st_len {xs : List α} (hx : evT T x = .d (.vec k (xs.map e))) : stepV (.len x) (evT T) σ n = some (.d (.int .i64 xs.length), σ, n) := by simp [stepV, hx]

theorem st_ldC {d z : D} {j : Nat} (hx : evT T x = .d (.cptr kb d j)) (hd : loadD kb d j k = some z) : stepV (.load k x) (evT T) σ n = some (.d z, σ, n) := by simp [stepV, loadAt, hx, hd]
theorem st_ldIC {d z : D} {j : Nat} (hx : evT T x = .d (.cptr kb d j)) (hd : loadD kb d j k = some z) : stepV (.ldI k x) (evT T) σ n = some (.d z, σ, n) := by simp [stepV, hx, hd]

theorem mkAgg_d (ds : List D) : mkAgg (ds.map V.d) = .d (.agg ds) := by
  have : optAll ((ds.map V.d).map V.toD) = some ds := by
    induction ds with
    | nil => rfl
    | cons d ds ih => simp only [List.map_cons, V.toD, optAll_cons]; rw [ih]; rfl
  simp only [mkAgg, this]

def fillAt : Nat → List V → List V → List V
  | 0, [], cs => cs
  | 0, v :: vs, [] => v :: vs
  | 0, v :: vs, _ :: cs => v :: fillAt 0 vs cs
  | _ + 1, vs, [] => vs
  | off + 1, vs, c :: cs => c :: fillAt off vs cs

theorem fillAt_eq : ∀ (off : Nat) (vs cs : List V), off + vs.length ≤ cs.length → fillAt off vs cs = cs.take off ++ vs ++ cs.drop (off + vs.length)
  | 0, [], cs, _ => by simp [fillAt]
  | 0, v :: vs, [], h => by simp at h
  | 0, v :: vs, c :: cs, h => by
    have := fillAt_eq 0 vs cs (by simp at h ⊢; omega)
    simp [fillAt, this]
  | off + 1, vs, [], h => by simp at h
  | off + 1, vs, c :: cs, h => by
    have := fillAt_eq off vs cs (by simp at h ⊢; omega)
    rw [show off + 1 + vs.length = (off + vs.length) + 1 by omega]
    simp [fillAt, this]

def fillW (cells : List V) : List (Nat × Nat × V) → Option (List V)
  | [] => some cells
  | (off, size, v) :: r =>
    if v.cells.all V.one = true ∧ v.cells.length = size ∧ off + size ≤ cells.length then fillW (fillAt off v.cells cells) r else none

theorem fillW_eq : ∀ (parts : List (Nat × Nat × V)) (cells : List V), fillW cells parts = fillV cells parts
  | [], _ => rfl
  | (off, size, v) :: r, cells => by
    simp only [fillW, fillV]
    split
    · rename_i h
      obtain ⟨_, h2, h3⟩ := h
      subst h2
      rw [fillAt_eq off v.cells cells h3, fillW_eq r]
    · rfl

theorem st_build {zero : List D} {parts : List (Nat × Nat × AX)} {ds : List D} (h : fillW (zero.map V.d) (parts.map fun p => (p.1, p.2.1, evT T p.2.2)) = some (ds.map V.d)) : stepV (.build zero parts) (evT T) σ n = some (.d (.agg ds), σ, n) := by
  rw [fillW_eq] at h
  simp only [stepV, h, Option.map_some, mkAgg_d]

theorem st_ldV {m id j : Nat} {cs : List V} {ds : List D} (hx : evT T x = .ptr id 0 j) (hid : σ id = some (.var cs)) (hl : j + m ≤ cs.length) (hs : (cs.drop j).take m = ds.map V.d) : stepV (.load (some m) x) (evT T) σ n = some (.d (.agg ds), σ, n) := by
  simp only [stepV, loadAt, hx, hid, subV, Nat.zero_add, if_pos hl, hs, mkAgg_d, Option.map_some]

theorem res_cell {s : S} {t m id j : Nat} {cs : List V} {ds : List D} {l : List ARes} {vs : List V} (hx : s.T t = .ptr id 0 j) (hid : s.σ id = some (.var cs)) (hl : j + m ≤ cs.length) (hs : (cs.drop j).take m = ds.map V.d) (hr : resVs s l = some vs) : resVs s (.cell t (some m) :: l) = some (.d (.agg ds) :: vs) := by
  simp only [resVs, resV1, loadAt, hx, hid, subV, Nat.zero_add, if_pos hl, hs, mkAgg_d, hr]

theorem res_t {s : S} {t : Nat} {v : V} {l : List ARes} {vs : List V} (hx : s.T t = v) (hr : resVs s l = some vs) : resVs s (.t t :: l) = some (v :: vs) := by
  simp only [resVs, resV1, hx, hr]

theorem st_iaddrAC {m : Nat} {xs : List α} {i : Int} {v : α} {kk : IntKind} {d : D} {j : Nat} (h : gat xs i = some v) (hm : xs.length = m) (hx : evT T x = .d (.cptr kb d j)) (hy : evT T y = .d (.int kk i)) : stepV (.iaddrA m k x y) (evT T) σ n = some (.d (.cptr kb d (j + i.toNat * stride k)), σ, n) := by
  obtain ⟨h0, h1⟩ := gat_lt h
  have : i < (m : Int) := by omega
  simp [stepV, hx, hy, h0, this]

theorem st_iaddrAP {m : Nat} {xs : List α} {i : Int} {v : α} {kk : IntKind} {id q j : Nat} (h : gat xs i = some v) (hm : xs.length = m) (hx : evT T x = .ptr id q j) (hy : evT T y = .d (.int kk i)) : stepV (.iaddrA m k x y) (evT T) σ n = some (.ptr id q (j + i.toNat * stride k), σ, n) := by
  obtain ⟨h0, h1⟩ := gat_lt h
  have : i < (m : Int) := by omega
  simp [stepV, hx, hy, h0, this]

/-- An element of an array variable is stored. -/
theorem st_storeA {xs xs' : List α} {i : Int} {v : α} {id j : Nat} {pre post : List V} (h : gput xs i v = some xs') (hx : evT T x = .ptr id 0 (j + i.toNat * 1)) (hy : evT T y = .d (e v)) (hid : σ id = some (.var (pre ++ (xs.map (fun x => V.d (e x)) ++ post)))) (hj : pre.length = j)
    (hc : (e v).cells = [e v]) (h1 : (e v).one = true) : stepV (.store none x y) (evT T) σ n = some (V.undef, upd σ id (some (.var (pre ++ (xs'.map (fun x => V.d (e x)) ++ post)))), n) := by
  obtain ⟨h0, hlt, rfl⟩ := gput_spec h
  subst hj
  have e1 : (V.d (e v)).cells = [V.d (e v)] := by simp [V.cells, hc]
  have e2 : (V.d (e v)).one = true := h1
  have hle : 0 + (pre.length + i.toNat) + 1 ≤ (pre ++ (xs.map (fun x => V.d (e x)) ++ post)).length := by simp; omega
  have key : (pre ++ (xs.map (fun x => V.d (e x)) ++ post)).take (pre.length + i.toNat) ++ [V.d (e v)] ++ (pre ++ (xs.map (fun x => V.d (e x)) ++ post)).drop (pre.length + i.toNat + 1) = pre ++ ((xs.set i.toNat v).map (fun x => V.d (e x)) ++ post) := by
    rw [← List.set_eq_take_append_cons_drop_aux (by simp; omega)]
    rw [List.set_append_right _ _ (by omega), Nat.add_sub_cancel_left, List.set_append_left _ _ (by simpa using hlt), List.map_set]
  simp only [stepV, storeAt, hx, hy, hid, e1, Nat.mul_one]
  rw [if_pos ⟨rfl, by simp [e2], by simpa [stride] using hle⟩]
  simp only [stride, Option.getD_none, Nat.zero_add, Option.map_some]
  rw [key]
where
  List.set_eq_take_append_cons_drop_aux {β : Type} {l : List β} {m : Nat} {v : β} (h : m < l.length) : l.set m v = l.take m ++ [v] ++ l.drop (m + 1) := by
    rw [List.set_eq_take_append_cons_drop, if_pos h]; simp

theorem A8.put_l {a a' : A8 α} {i : Int} {v : α} (h : a.put i v = some a') : gput a.l i v = some a'.l := by
  unfold A8.put at h
  cases hg : gput a.l i v with
  | none => rw [hg] at h; cases h
  | some xs =>
    rw [hg] at h
    obtain ⟨_, _, rfl⟩ := gput_spec hg
    have hl : (a.l.set i.toNat v).length = 8 := by simp [A8.l]
    generalize a.l.set i.toNat v = q at h hl
    match q, hl with
    | [_, _, _, _, _, _, _, _], _ => cases h; rfl
theorem A2.put_l {a a' : A2 α} {i : Int} {v : α} (h : a.put i v = some a') : gput a.l i v = some a'.l := by
  unfold A2.put at h
  cases hg : gput a.l i v with
  | none => rw [hg] at h; cases h
  | some xs =>
    rw [hg] at h
    obtain ⟨_, _, rfl⟩ := gput_spec hg
    have hl : (a.l.set i.toNat v).length = 2 := by simp [A2.l]
    generalize a.l.set i.toNat v = q at h hl
    match q, hl with
    | [_, _], _ => cases h; rfl

end

/-! what a function hands back -/

def RV (σ : Store) : List V → List D → Prop
  | [], [] => True
  | v :: l, d :: r => (∃ d0, viewE1 σ v = some d0 ∧ Sub d0 d) ∧ RV σ l r
  | _, _ => False

theorem RV.all {σ : Store} : ∀ {vs : List V} {ds : List D}, RV σ vs ds → ∃ ds0, optAll (vs.map (viewE1 σ)) = some ds0 ∧ ds0.length = ds.length ∧ ∀ (i : Nat) a b, ds0[i]? = some a → ds[i]? = some b → Sub a b
  | [], [], _ => ⟨[], rfl, rfl, fun i a b h => by simp at h⟩
  | v :: vs, d :: ds, ⟨⟨d0, h1, h2⟩, h3⟩ => by
    obtain ⟨ds0, g1, g2, g3⟩ := RV.all h3
    refine ⟨d0 :: ds0, by simp [h1, g1], by simp [g2], fun i a b ha hb => ?_⟩
    cases i with
    | zero => simp at ha hb; subst ha; subst hb; exact h2
    | succ i => exact g3 i a b (by simpa using ha) (by simpa using hb)
  | [], _ :: _, h => h.elim
  | _ :: _, [], h => h.elim

theorem RV.d {σ : Store} {vs : List V} {d : D} {ds : List D} (h : RV σ vs ds) : RV σ (.d d :: vs) (d :: ds) := ⟨⟨d, rfl, .refl _⟩, h⟩
theorem RV.sub {σ : Store} {vs : List V} {d0 d : D} {ds : List D} (hs : Sub d0 d) (h : RV σ vs ds) : RV σ (.d d0 :: vs) (d :: ds) := ⟨⟨d0, rfl, hs⟩, h⟩
theorem RV.nl {σ : Store} {vs : List V} {k : Option Nat} {ds : List D} (h : RV σ vs ds) : RV σ (.d .nils :: vs) (.vec k [] :: ds) := ⟨⟨.nils, rfl, .nils k⟩, h⟩
theorem view_loc {σ : Store} {id len : Nat} {m : Bool} {k : Option Nat} {els : List D} (hid : σ id = some (.lst m k els)) (hl : len = els.length) : viewE0 σ (.loc id 0 len) = some (.vec k els) := by
  subst hl; simp [viewE0, hid]
theorem RV.loc {σ : Store} {vs : List V} {id len : Nat} {m : Bool} {k : Option Nat} {α : Type} {xs : List α} {e : α → D} {ds : List D} (hid : σ id = some (.lst m k (xs.map e))) (hl : len = xs.length) (h : RV σ vs ds) : RV σ (.loc id 0 len :: vs) (.vec k (xs.map e) :: ds) :=
  ⟨⟨_, view_loc hid (by simpa using hl), .refl _⟩, h⟩

def RV0 (σ : Store) : List V → List D → Prop
  | [], [] => True
  | v :: l, d :: r => (∃ d0, viewE0 σ v = some d0 ∧ Sub d0 d) ∧ RV0 σ l r
  | _, _ => False

theorem RV0.all {σ : Store} : ∀ {vs : List V} {ds : List D}, RV0 σ vs ds → ∃ ds0, optAll (vs.map (viewE0 σ)) = some ds0 ∧ ds0.length = ds.length ∧ ∀ (i : Nat) a b, ds0[i]? = some a → ds[i]? = some b → Sub a b
  | [], [], _ => ⟨[], rfl, rfl, fun i a b h => by simp at h⟩
  | v :: vs, d :: ds, ⟨⟨d0, h1, h2⟩, h3⟩ => by
    obtain ⟨ds0, g1, g2, g3⟩ := RV0.all h3
    refine ⟨d0 :: ds0, by simp [h1, g1], by simp [g2], fun i a b ha hb => ?_⟩
    cases i with
    | zero => simp at ha hb; subst ha; subst hb; exact h2
    | succ i => exact g3 i a b (by simpa using ha) (by simpa using hb)
  | [], _ :: _, h => h.elim
  | _ :: _, [], h => h.elim

theorem RV0.d {σ : Store} {vs : List V} {d : D} {ds : List D} (h : RV0 σ vs ds) : RV0 σ (.d d :: vs) (d :: ds) := ⟨⟨d, rfl, .refl _⟩, h⟩
theorem RV0.nl {σ : Store} {vs : List V} {k : Option Nat} {ds : List D} (h : RV0 σ vs ds) : RV0 σ (.d .nils :: vs) (.vec k [] :: ds) := ⟨⟨.nils, rfl, .nils k⟩, h⟩
theorem RV0.loc {σ : Store} {vs : List V} {id len : Nat} {m : Bool} {k : Option Nat} {α : Type} {xs : List α} {e : α → D} {ds : List D} (hid : σ id = some (.lst m k (xs.map e))) (hl : len = xs.length) (h : RV0 σ vs ds) : RV0 σ (.loc id 0 len :: vs) (.vec k (xs.map e) :: ds) :=
  ⟨⟨_, view_loc hid (by simpa using hl), .refl _⟩, h⟩
theorem RV.agg {σ : Store} {vs cs : List V} {es ds : List D} (hc : RV0 σ cs es) (h : RV σ vs ds) : RV σ (.agg cs :: vs) (.agg es :: ds) := by
  obtain ⟨es0, g1, g2, g3⟩ := hc.all
  exact ⟨⟨.agg es0, by simp [viewE1, g1], .agg _ _ g2 g3⟩, h⟩

/-- Cells that are data, or may be seen so. -/
def SubL : List D → List D → Prop
  | [], [] => True
  | a :: l, b :: r => Sub a b ∧ SubL l r
  | _, _ => False

theorem SubL.all : ∀ {l r : List D}, SubL l r → l.length = r.length ∧ ∀ (i : Nat) a b, l[i]? = some a → r[i]? = some b → Sub a b
  | [], [], _ => ⟨rfl, fun i a b h => by simp at h⟩
  | x :: l, y :: r, h => by
    obtain ⟨h1, h2⟩ := SubL.all h.2
    refine ⟨by simp [h1], fun i u v hu hv => ?_⟩
    cases i with
    | zero => simp at hu hv; subst hu; subst hv; exact h.1
    | succ i => exact h2 i u v (by simpa using hu) (by simpa using hv)
  | [], _ :: _, h => h.elim
  | _ :: _, [], h => h.elim

theorem Sub.aggs {l r : List D} (h : SubL l r) : Sub (.agg l) (.agg r) := .agg l r h.all.1 h.all.2

theorem FQ.mk1 {res : List ARes} {e : Exit} {s' : S} {v : V} {d : D} (he : e = .normal ∨ e = .ret) (h1 : resVs s' res = some [v]) (h2 : RV s'.σ [v] [d]) : FQ res d e s' := by
  obtain ⟨⟨d0, g1, g2⟩, _⟩ := h2
  refine ⟨he, [v], h1, d0, ?_, g2⟩
  cases v with
  | tup vs => simp [viewE1, viewE0] at g1
  | _ => exact g1

theorem FQ.mkT {res : List ARes} {e : Exit} {s' : S} {v v' : V} {vs : List V} {ds : List D} (he : e = .normal ∨ e = .ret) (h1 : resVs s' res = some (v :: v' :: vs)) (h2 : RV s'.σ (v :: v' :: vs) ds) : FQ res (.tup ds) e s' := by
  obtain ⟨ds0, g1, g2, g3⟩ := h2.all
  refine ⟨he, _, h1, .tup ds0, ?_, .tup _ _ g2 g3⟩
  show viewE s'.σ (mkTup (v :: v' :: vs)) = _
  unfold mkTup
  split
  · rename_i xs hx
    have : optAll ((v :: v' :: vs).map (viewE1 s'.σ)) = some xs := by
      have key : ∀ (l : List V) (xs : List D), optAll (l.map V.toD) = some xs → optAll (l.map (viewE1 s'.σ)) = some xs := by
        intro l
        induction l with
        | nil => intro xs h; exact h
        | cons u l ih =>
          intro xs h
          cases u <;> simp [V.toD] at h
          rename_i q
          obtain ⟨ys, h1, rfl⟩ := h
          simp [viewE1, viewE0, ih ys h1]
      exact key _ _ hx
    rw [this] at g1
    cases g1
    rfl
  · simp only [viewE, g1, Option.map_some]

theorem ArgsOk.lcm {vs : List V} {id len : Nat} {k : Option Nat} {α : Type} {xs : List α} {e : α → D} {ds : List D} (hid : σ id = some (.lst false k (xs.map e))) (hl : len = xs.length) (h : ArgsOk σ vs ds) : ArgsOk σ (.loc id 0 len :: vs) (.vec k (xs.map e) :: ds) := ArgsOk.lc hid (by simpa using hl) h

theorem optC {β γ : Type} {f : β → Option γ} {a : β} {x : γ} {l : List β} {r : List γ} (h : f a = some x) (h' : optAll (l.map f) = some r) : optAll ((a :: l).map f) = some (x :: r) := by
  simp [h, h']
theorem optN {β γ : Type} {f : β → Option γ} : optAll (([] : List β).map f) = some [] := rfl
theorem vc_l {id len : Nat} {k : Option Nat} {α : Type} {xs : List α} {e : α → D} (hid : σ id = some (.lst false k (xs.map e))) (hl : len = xs.length) : viewC σ (.loc id 0 len) = some (.vec k (xs.map e)) := by
  subst hl
  simp only [viewC, hid]
  rw [if_pos (by simp)]
  congr 2
  rw [List.drop_zero]
  exact List.take_of_length_le (by simp)
theorem va_agg {cs : List V} {ds : List D} (h : optAll (cs.map (viewC σ)) = some ds) : viewA σ (.agg cs) = some (.agg ds) := by
  simp [viewA, h]

/-- Lists that nobody writes into are handed on as data. -/
def Sees (σ : Store) : List V → List V → Prop
  | [], [] => True
  | x :: l, y :: r => (x = y ∨ ∃ d, viewA σ x = some d ∧ y = .d d) ∧ Sees σ l r
  | _, _ => False

theorem Sees.all {σ : Store} : ∀ {l r : List V}, Sees σ l r → l.length = r.length ∧ ∀ (i : Nat) y, r[i]? = some y → ∃ x, l[i]? = some x ∧ (x = y ∨ ∃ d, viewA σ x = some d ∧ y = .d d)
  | [], [], _ => ⟨rfl, fun i y h => by simp at h⟩
  | x :: l, y :: r, h => by
    obtain ⟨h1, h2⟩ := Sees.all h.2
    refine ⟨by simp [h1], fun i z hz => ?_⟩
    cases i with
    | zero => simp at hz; subst hz; exact ⟨x, rfl, h.1⟩
    | succ i => exact h2 i z (by simpa using hz)
  | [], _ :: _, h => h.elim
  | _ :: _, [], h => h.elim

theorem SCall.sees {P : Program} {f : Nat} {vals vals' : List V} {σ σ' : Store} {n n' : Nat} {v : V} (h : SCallR P f vals' σ n v σ' n') (hv : Sees σ vals vals') : SCallR P f vals σ n v σ' n' := by
  obtain ⟨hl, hv⟩ := hv.all
  refine ⟨h.1, fun A μ w vs hs hfr hlen hrel => h.2 A μ w vs hs hfr (by omega) fun i y u hy hu => ?_⟩
  obtain ⟨x, hx, rfl | ⟨d, hd, rfl⟩⟩ := hv i y hy
  · exact hrel i x u hx hu
  · exact .d _ _ (viewA_sound hs hd (hrel i x u hx hu))

theorem viewB_all {id len : Nat} {m : Bool} {k : Option Nat} {α : Type} {xs : List α} {e : α → D} (hid : σ id = some (.lst m k (xs.map e))) (hl : len = xs.length) : ViewB σ (.loc id 0 len) (.vec k (xs.map e)) := by
  subst hl
  have := ViewB.loc (off := 0) (len := xs.length) hid (by simp)
  have h2 : ((xs.map e).drop 0).take xs.length = xs.map e := List.take_of_length_le (by simp)
  rwa [h2] at this

theorem eqSV_agg {ks : List Ck} {a b : List D} {p : Bool} (h1 : a.length = ks.length) (h2 : b.length = ks.length) (h : eqT ks a b = some p) : eqSV ks (.d (.agg a)) (.d (.agg b)) = some p := by
  simp [eqSV, h1, h2, h]

theorem ba_toList_inj {a b : ByteArray} : a.toList = b.toList ↔ a = b := by
  rw [ByteArray.toList_eq, ByteArray.toList_eq]
  constructor
  · intro h
    have : a.data = b.data := Array.toList_inj.1 h
    cases a; cases b; simp at this; subst this; rfl
  · rintro rfl; rfl

theorem viewB_func {f : Nat} {cs : List V} {ds : List D} (h : ViewsB σ cs ds) : ViewB σ (.func f cs) (.func f ds) := .func h.all.1 h.all.2
theorem ViewsB.c {v : V} {d : D} {l : List V} {r : List D} (h : ViewB σ v d) (h' : ViewsB σ l r) : ViewsB σ (v :: l) (d :: r) := ⟨h, h'⟩
theorem ViewsB.nil0 : ViewsB σ [] [] := trivial
theorem VNs.c {ρ : Nat → Nat} {n0 : Nat} {v u : V} {l r : List V} (h : VN ρ n0 v u) (h' : VNs ρ n0 l r) : VNs ρ n0 (v :: l) (u :: r) := ⟨h, h'⟩
theorem VNs.nil0 {ρ : Nat → Nat} {n0 : Nat} : VNs ρ n0 [] [] := trivial
theorem SN.c {ρ : Nat → Nat} {n0 i : Nat} {b b' : Blk} {l : List (Nat × Blk)} (hi : i < n0) (hb : σ (ρ i) = some b') (h : BN ρ n0 b' b) (h' : SN ρ n0 σ l) : SN ρ n0 σ ((i, b) :: l) := ⟨⟨hi, b', hb, h⟩, h'⟩
theorem SN.nil0 {ρ : Nat → Nat} {n0 : Nat} : SN ρ n0 σ [] := trivial
theorem dom_c {m i : Nat} {b : Blk} {l : List (Nat × Blk)} (h : i < m) (h' : ∀ q ∈ l, q.1 < m) : ∀ q ∈ (i, b) :: l, q.1 < m := by
  intro q hq
  rcases List.mem_cons.1 hq with rfl | hq
  · exact h
  · exact h' q hq
theorem dom_n {m : Nat} : ∀ q ∈ ([] : List (Nat × Blk)), q.1 < m := by intro q hq; cases hq

end
end Go.AM
