import Derived.Test.YtnnkfanmokeiaaaAmN5
import Derived.Laws.Strings
set_option linter.unusedVariables false
set_option linter.unusedSectionVars false
set_option linter.unusedSimpArgs false
namespace Go.AM
open Go Go.RowKit
variable [Glob]
section
variable {P : Program} {N na : Nat} {A : Nat → Nat → Prop} {μ μ' : Nat → Option bg} {T T' : Nat → V} {σ σ' : az} {w w' : World} {a : Act} {n n' : Nat} {l : List bo} {dst : Option Nat} {op : a9} {K : S → Prop}
theorem co {α β : Type} {o : Option α} {g : α → β} {x : β} (h : o.map g = some x) : ∃ y, o = some y ∧ g y = x := by
  cases o with
  | none => cases h
  | some y => exact ⟨y, rfl, ar h⟩
theorem BN.vars {ρ : Nat → Nat} {n0 : Nat} {vs us : List V} (h : aY ρ n0 vs us) : BN ρ n0 (.var vs) (.var us) := .var vs us h.all.1 h.all.2
theorem VN.aggs {ρ : Nat → Nat} {n0 : Nat} {vs us : List V} (h : aY ρ n0 vs us) : VN ρ n0 (.agg vs) (.agg us) := .agg vs us h.all.1 h.all.2
theorem iC {s : S} (t : Nat) (m : Bool) (k : Option Nat) (h : s.T t = .d .nils) : bK na s ⟨ak s.T t (.loc s.n 0 0), ak s.σ s.n (some (.lst m k [])), s.n + 1⟩ := by
  refine bK.nil _ m k fun i => ?_
  by_cases e : i = t
  · subst e; exact .inr ⟨bb _ _ _, h⟩
  · exact .inl (aM _ _ e)
theorem mB {cs cs' : List V} {pl : Option bg} {b o : Nat} (h : aQ.ownsAt (.var cs) pl b o) : aQ.ownsAt (.var cs') pl b o := by
  cases pl with
  | none => exact h
  | some p => cases p <;> exact h
theorem jV {A : Nat → Nat → Prop} {μ : Nat → Option bg} {σ : az} {id : Nat} {cs cs' : List V} (hid : σ id = some (.var cs)) : au A μ (ak σ id (some (.var cs'))) = au A μ σ := by
  funext b o
  apply propext
  unfold au cr
  refine or_congr ⟨?_, ?_⟩ Iff.rfl
  · rintro ⟨j, blk, h1, h2⟩
    by_cases e : j = id
    · subst e
      rw [bb] at h1; cases h1
      exact ⟨j, _, hid, mB h2⟩
    · rw [aM _ _ e] at h1; exact ⟨j, blk, h1, h2⟩
  · rintro ⟨j, blk, h1, h2⟩
    by_cases e : j = id
    · subst e
      rw [hid] at h1; cases h1
      exact ⟨j, _, bb _ _ _, mB h2⟩
    · exact ⟨j, blk, by rw [aM _ _ e]; exact h1, h2⟩
theorem mC {μ : Nat → Option bg} {σ : az} {w : World} {id : Nat} {cs cs' : List V} (hid : σ id = some (.var cs)) : aL μ σ w μ (ak σ id (some (.var cs'))) w where
  os := rfl
  tape := rfl
  output := rfl
  size := Nat.le_refl _
  block _ _ _ := rfl
  cells _ c _ _ hc := ⟨c, hc, rfl, fun _ _ => rfl⟩
  own b o ho := by
    have : au (fun _ _ => False) μ (ak σ id (some (.var cs'))) b o := .inl ho
    rw [jV hid] at this
    exact .inl (this.elim (fun h => h) (fun h => h.elim))
  ownB b ho := by
    obtain ⟨j, blk, k, h1, h2⟩ := ho
    by_cases e : j = id
    · subst e; exact .inl ⟨j, _, k, hid, h2⟩
    · rw [aM _ _ e] at h1; exact .inl ⟨j, blk, k, h1, h2⟩
  grow _ _ h := h
theorem qv {s : S} (id j m : Nat) {cs : List V} {blk : aQ} (hid : s.σ id = some (.var cs)) (hj : cs[j]? = some (.d .nils)) (hm : s.σ m = some blk) : bK na s ⟨s.T, ak s.σ id (some (.var (cs.set j (.loc m 0 0)))), s.n⟩ := by
  intro N A μ a w ⟨hs, hfr⟩
  have hp := bZ.placed (hs.store.blks m _ hm)
  have hst : aH A μ (ak s.σ id (some (.var (cs.set j (.loc m 0 0))))) w := by
    refine hs.store.update (mC hid) id (fun q x hq h => by rwa [aM _ _ hq] at h) (fun q hq => rfl) (fun x hx => ?_) (fun _ _ _ _ _ _ _ => rfl) (fun b k' x hx hp' => ⟨fun o => hs.store.amb id _ b k' hid hp' o, fun q y k'' hq hy hq' => hq ?_⟩)
    · simp only [bb, Option.some.injEq] at hx
      subst hx
      rw [jV hid]
      obtain ⟨b, c, ty, fr, h1, h2, h3, h4, h5⟩ := hs.store.blks id _ hid
      refine ⟨b, c, ty, fr, h1, h2, h3, by simpa using h4, fun i x v hx hv => ?_⟩
      rw [List.getElem?_set] at hx
      split at hx
      · rename_i e
        subst e
        split at hx
        · cases hx
          obtain ⟨g1, g2⟩ := h5 j _ v hj hv
          refine ⟨g1, ?_⟩
          cases g2 with | d _ _ hd => cases hd; exact .loc0 _ _ _ hp
        · cases hx
      · exact h5 i x v hx hv
    · rw [aM _ _ hq] at hy
      exact hs.store.inj q id y _ b k'' k' hy hid hq' hp'
  refine ⟨μ, ⟨⟨hs.size, hs.defers, fun i => ?_, hst⟩, hfr⟩, (mC hid).ng⟩
  show aD μ (au A μ (ak s.σ id (some (.var (cs.set j (.loc m 0 0)))))) w (s.T i) _
  rw [jV hid]
  exact hs.tmps i
theorem qw {s : S} (id j : Nat) (m : Bool) (k : Option Nat) {cs : List V} (hid : s.σ id = some (.var cs)) (hj : cs[j]? = some (.d .nils)) (hlt : id ≠ s.n) : bK na s ⟨s.T, ak (ak s.σ s.n (some (.lst m k []))) id (some (.var (cs.set j (.loc s.n 0 0)))), s.n + 1⟩ :=
  bK.trans (bK.nil s.T m k fun i => .inl rfl) (qv id j s.n (s := ⟨s.T, ak s.σ s.n (some (.lst m k [])), s.n + 1⟩) ((aM _ _ hlt).trans hid) hj (bb _ _ _))
def gV (T : Nat → V) (ts : List Nat) (v : V) : Nat → V := fun i => if ts.contains i then v else T i
theorem qx {s : S} (ts : List Nat) {id : Nat} {m : Bool} {k : Option Nat} {α : Type} {xs : List α} {e : α → D} (hid : s.σ id = some (.lst m k (xs.map e))) (h0 : ∀ t ∈ ts, ∃ len, s.T t = .loc id 0 len ∧ len = xs.length) : bK na s ⟨gV s.T ts (.d (.vec k (xs.map e))), ak s.σ id none, s.n⟩ := by
  generalize hels : xs.map e = els at *
  have h : ∀ t ∈ ts, ∃ len, s.T t = .loc id 0 len ∧ len = els.length := fun t ht => by
    obtain ⟨len, h1, h2⟩ := h0 t ht
    exact ⟨len, h1, by rw [h2, ← hels, List.length_map]⟩
  refine bK.imm _ hid fun i => ?_
  unfold gV
  by_cases e : ts.contains i = true
  · simp only [e, if_true]
    obtain ⟨len, h1, rfl⟩ := h i (by simpa using e)
    rw [h1]
    have := d8.loc (id := id) (k := k) (els := els) 0 els.length (by omega)
    simpa using this
  · have e' : ts.contains i = false := by simpa using e
    simp only [e', Bool.false_eq_true, if_false]
    exact .refl _
theorem qy {s : S} (k : Nat) {v : V} {d : D} (hT : s.T k = v) (hv : cE s.σ v = some d) : bK na s ⟨gV s.T [k] (.d d), s.σ, s.n⟩ := by
  intro N A μ a w ⟨hs, hfr⟩
  refine ⟨μ, ⟨⟨hs.size, hs.defers, fun i => ?_, hs.store⟩, hfr⟩, (aL.refl _ _ _).ng⟩
  unfold gV
  by_cases c : i = k
  · subst c
    have : ([i] : List Nat).contains i = true := by simp
    simp only [this, if_true]
    have h0 := hs.tmps i
    rw [hT] at h0
    exact .d _ _ (f6 hs.store hv h0)
  · have : ([k] : List Nat).contains i = false := by simpa using c
    simp only [this, Bool.false_eq_true, if_false]
    exact hs.tmps i
theorem ve {s : S} (t : Nat) {id : Nat} {k : Option Nat} {α : Type} {xs l : List α} {e : α → D} {lo hi : Int} (hT : s.T t = .loc id lo.toNat (hi.toNat - lo.toNat)) (hid : s.σ id = some (.lst false k (xs.map e))) (hc : eg xs lo hi = some l) : bK na s ⟨gV s.T [t] (.d (.vec k (l.map e))), s.σ, s.n⟩ := by
  refine qy t hT ?_
  unfold eg at hc
  split at hc
  · rename_i h
    cases hc
    simp only [cE, hid, List.length_map]
    rw [if_pos (by omega), List.map_take, List.map_drop]
  · cases hc
section
variable {α : Type} {e : α → D} {x y : AX} {k kb : Option Nat}
theorem qz {β : Type} {id : Nat} {xs l : List β} {lo hi : Int} (hx : aE T x = .loc id lo.toNat (hi.toNat - lo.toNat)) (hc : eg xs lo hi = some l) : aB (.len x) (aE T) σ n = some (.d (.int .i64 l.length), σ, n) := by
  have : hi.toNat - lo.toNat = l.length := by
    unfold eg at hc
    split at hc
    · cases hc; simp; omega
    · cases hc
  simp [aB, hx, this]
theorem bG {xs : List α} (hx : aE T x = .d (.vec k (xs.map e))) : aB (.len x) (aE T) σ n = some (.d (.int .i64 xs.length), σ, n) := by simp [aB, hx]
theorem jW {d z : D} {j : Nat} (hx : aE T x = .d (.cptr kb d j)) (hd : dA kb d j k = some z) : aB (.ldI k x) (aE T) σ n = some (.d z, σ, n) := by simp [aB, hx, hd]
theorem jX (ds : List D) : fy (ds.map V.d) = .d (.agg ds) := by
  have : bP ((ds.map V.d).map V.toD) = some ds := by
    induction ds with
    | nil => rfl
    | cons d ds ih => simp only [List.map_cons, V.toD, gB]; rw [ih]; rfl
  simp only [fy, this]
def fO : Nat → List V → List V → List V
  | 0, [], cs => cs
  | 0, v :: vs, [] => v :: vs
  | 0, v :: vs, _ :: cs => v :: fO 0 vs cs
  | _ + 1, vs, [] => vs
  | off + 1, vs, c :: cs => c :: fO off vs cs
theorem jY : ∀ (off : Nat) (vs cs : List V), off + vs.length ≤ cs.length → fO off vs cs = cs.take off ++ vs ++ cs.drop (off + vs.length)
  | 0, [], cs, _ => by simp [fO]
  | 0, v :: vs, [], h => by simp at h
  | 0, v :: vs, c :: cs, h => by
    have := jY 0 vs cs (by simp at h ⊢; omega)
    simp [fO, this]
  | off + 1, vs, [], h => by simp at h
  | off + 1, vs, c :: cs, h => by
    have := jY off vs cs (by simp at h ⊢; omega)
    rw [show off + 1 + vs.length = (off + vs.length) + 1 by omega]
    simp [fO, this]
def iD (cells : List V) : List (Nat × Nat × V) → Option (List V)
  | [] => some cells
  | (off, size, v) :: r =>
    if v.cells.all V.one = true ∧ v.cells.length = size ∧ off + size ≤ cells.length then iD (fO off v.cells cells) r else none
theorem mD : ∀ (parts : List (Nat × Nat × V)) (cells : List V), iD cells parts = eW cells parts
  | [], _ => rfl
  | (off, size, v) :: r, cells => by
    simp only [iD, eW]
    split
    · rename_i h
      obtain ⟨_, h2, h3⟩ := h
      subst h2
      rw [jY off v.cells cells h3, mD r]
    · rfl
theorem cO {zero : List D} {parts : List (Nat × Nat × AX)} {ds : List D} (h : iD (zero.map V.d) (parts.map fun p => (p.1, p.2.1, aE T p.2.2)) = some (ds.map V.d)) : aB (.build zero parts) (aE T) σ n = some (.d (.agg ds), σ, n) := by
  rw [mD] at h
  simp only [aB, h, Option.map_some, jX]
theorem b5 {m id j : Nat} {cs : List V} {ds : List D} (hx : aE T x = .ptr id 0 j) (hid : σ id = some (.var cs)) (hl : j + m ≤ cs.length) (hs : (cs.drop j).take m = ds.map V.d) : aB (.load (some m) x) (aE T) σ n = some (.d (.agg ds), σ, n) := by
  simp only [aB, cd, hx, hid, dz, Nat.zero_add, if_pos hl, hs, jX, Option.map_some]
theorem en {s : S} {t m id j : Nat} {cs : List V} {ds : List D} {l : List d6} {vs : List V} (hx : s.T t = .ptr id 0 j) (hid : s.σ id = some (.var cs)) (hl : j + m ≤ cs.length) (hs : (cs.drop j).take m = ds.map V.d) (hr : db s l = some vs) : db s (.cell t (some m) :: l) = some (.d (.agg ds) :: vs) := by
  simp only [db, gQ, cd, hx, hid, dz, Nat.zero_add, if_pos hl, hs, jX, hr]
theorem be {s : S} {t : Nat} {v : V} {l : List d6} {vs : List V} (hx : s.T t = v) (hr : db s l = some vs) : db s (.t t :: l) = some (v :: vs) := by
  simp only [db, gQ, hx, hr]
theorem jZ {m : Nat} {xs : List α} {i : Int} {v : α} {kk : IntKind} {d : D} {j : Nat} (h : bC xs i = some v) (hm : xs.length = m) (hx : aE T x = .d (.cptr kb d j)) (hy : aE T y = .d (.int kk i)) : aB (.iaddrA m k x y) (aE T) σ n = some (.d (.cptr kb d (j + i.toNat * ap k)), σ, n) := by
  obtain ⟨h0, h1⟩ := iB h
  have : i < (m : Int) := by omega
  simp [aB, hx, hy, h0, this]
theorem qA {m : Nat} {xs : List α} {i : Int} {v : α} {kk : IntKind} {id q j : Nat} (h : bC xs i = some v) (hm : xs.length = m) (hx : aE T x = .ptr id q j) (hy : aE T y = .d (.int kk i)) : aB (.iaddrA m k x y) (aE T) σ n = some (.ptr id q (j + i.toNat * ap k), σ, n) := by
  obtain ⟨h0, h1⟩ := iB h
  have : i < (m : Int) := by omega
  simp [aB, hx, hy, h0, this]
theorem qB {xs xs' : List α} {i : Int} {v : α} {id j : Nat} {pre post : List V} (h : de xs i v = some xs') (hx : aE T x = .ptr id 0 (j + i.toNat * 1)) (hy : aE T y = .d (e v)) (hid : σ id = some (.var (pre ++ (xs.map (fun x => V.d (e x)) ++ post)))) (hj : pre.length = j)
    (hc : (e v).cells = [e v]) (h1 : (e v).one = true) : aB (.store none x y) (aE T) σ n = some (V.undef, ak σ id (some (.var (pre ++ (xs'.map (fun x => V.d (e x)) ++ post)))), n) := by
  obtain ⟨h0, hlt, rfl⟩ := gU h
  subst hj
  have e1 : (V.d (e v)).cells = [V.d (e v)] := by simp [V.cells, hc]
  have e2 : (V.d (e v)).one = true := h1
  have hle : 0 + (pre.length + i.toNat) + 1 ≤ (pre ++ (xs.map (fun x => V.d (e x)) ++ post)).length := by simp; omega
  have key : (pre ++ (xs.map (fun x => V.d (e x)) ++ post)).take (pre.length + i.toNat) ++ [V.d (e v)] ++ (pre ++ (xs.map (fun x => V.d (e x)) ++ post)).drop (pre.length + i.toNat + 1) = pre ++ ((xs.set i.toNat v).map (fun x => V.d (e x)) ++ post) := by
    rw [← List.set_eq_take_append_cons_drop_aux (by simp; omega)]
    rw [List.set_append_right _ _ (by omega), Nat.add_sub_cancel_left, List.set_append_left _ _ (by simpa using hlt), List.map_set]
  simp only [aB, dK, hx, hy, hid, e1, Nat.mul_one]
  rw [if_pos ⟨rfl, by simp [e2], by simpa [ap] using hle⟩]
  simp only [ap, Option.getD_none, Nat.zero_add, Option.map_some]
  rw [key]
where
  List.set_eq_take_append_cons_drop_aux {β : Type} {l : List β} {m : Nat} {v : β} (h : m < l.length) : l.set m v = l.take m ++ [v] ++ l.drop (m + 1) := by
    rw [List.set_eq_take_append_cons_drop, if_pos h]; simp
theorem A8.put_l {a a' : A8 α} {i : Int} {v : α} (h : a.put i v = some a') : de a.l i v = some a'.l := by
  unfold A8.put at h
  cases hg : de a.l i v with
  | none => rw [hg] at h; cases h
  | some xs =>
    rw [hg] at h
    obtain ⟨_, _, rfl⟩ := gU hg
    have hl : (a.l.set i.toNat v).length = 8 := by simp [A8.l]
    generalize a.l.set i.toNat v = q at h hl
    match q, hl with
    | [_, _, _, _, _, _, _, _], _ => cases h; rfl
theorem A2.put_l {a a' : A2 α} {i : Int} {v : α} (h : a.put i v = some a') : de a.l i v = some a'.l := by
  unfold A2.put at h
  cases hg : de a.l i v with
  | none => rw [hg] at h; cases h
  | some xs =>
    rw [hg] at h
    obtain ⟨_, _, rfl⟩ := gU hg
    have hl : (a.l.set i.toNat v).length = 2 := by simp [A2.l]
    generalize a.l.set i.toNat v = q at h hl
    match q, hl with
    | [_, _], _ => cases h; rfl
end
def RV (σ : az) : List V → List D → Prop
  | [], [] => True
  | v :: l, d :: r => (∃ d0, dP σ v = some d0 ∧ cJ d0 d) ∧ RV σ l r
  | _, _ => False
theorem RV.all {σ : az} : ∀ {vs : List V} {ds : List D}, RV σ vs ds → ∃ ds0, bP (vs.map (dP σ)) = some ds0 ∧ ds0.length = ds.length ∧ ∀ (i : Nat) a b, ds0[i]? = some a → ds[i]? = some b → cJ a b
  | [], [], _ => ⟨[], rfl, rfl, fun i a b h => by simp at h⟩
  | v :: vs, d :: ds, ⟨⟨d0, h1, h2⟩, h3⟩ => by
    obtain ⟨ds0, g1, g2, g3⟩ := RV.all h3
    refine ⟨d0 :: ds0, by simp [h1, g1], by simp [g2], fun i a b ha hb => ?_⟩
    cases i with
    | zero => simp at ha hb; subst ha; subst hb; exact h2
    | succ i => exact g3 i a b (by simpa using ha) (by simpa using hb)
  | [], _ :: _, h => h.elim
  | _ :: _, [], h => h.elim
theorem RV.d {σ : az} {vs : List V} {d : D} {ds : List D} (h : RV σ vs ds) : RV σ (.d d :: vs) (d :: ds) := ⟨⟨d, rfl, .refl _⟩, h⟩
theorem RV.sub {σ : az} {vs : List V} {d0 d : D} {ds : List D} (hs : cJ d0 d) (h : RV σ vs ds) : RV σ (.d d0 :: vs) (d :: ds) := ⟨⟨d0, rfl, hs⟩, h⟩
theorem RV.nl {σ : az} {vs : List V} {k : Option Nat} {ds : List D} (h : RV σ vs ds) : RV σ (.d .nils :: vs) (.vec k [] :: ds) := ⟨⟨.nils, rfl, .nils k⟩, h⟩
theorem mE {σ : az} {id len : Nat} {m : Bool} {k : Option Nat} {els : List D} (hid : σ id = some (.lst m k els)) (hl : len = els.length) : d7 σ (.loc id 0 len) = some (.vec k els) := by
  subst hl; simp [d7, hid]
theorem RV.loc {σ : az} {vs : List V} {id len : Nat} {m : Bool} {k : Option Nat} {α : Type} {xs : List α} {e : α → D} {ds : List D} (hid : σ id = some (.lst m k (xs.map e))) (hl : len = xs.length) (h : RV σ vs ds) : RV σ (.loc id 0 len :: vs) (.vec k (xs.map e) :: ds) :=
  ⟨⟨_, mE hid (by simpa using hl), .refl _⟩, h⟩
def dE (σ : az) : List V → List D → Prop
  | [], [] => True
  | v :: l, d :: r => (∃ d0, d7 σ v = some d0 ∧ cJ d0 d) ∧ dE σ l r
  | _, _ => False
theorem dE.all {σ : az} : ∀ {vs : List V} {ds : List D}, dE σ vs ds → ∃ ds0, bP (vs.map (d7 σ)) = some ds0 ∧ ds0.length = ds.length ∧ ∀ (i : Nat) a b, ds0[i]? = some a → ds[i]? = some b → cJ a b
  | [], [], _ => ⟨[], rfl, rfl, fun i a b h => by simp at h⟩
  | v :: vs, d :: ds, ⟨⟨d0, h1, h2⟩, h3⟩ => by
    obtain ⟨ds0, g1, g2, g3⟩ := dE.all h3
    refine ⟨d0 :: ds0, by simp [h1, g1], by simp [g2], fun i a b ha hb => ?_⟩
    cases i with
    | zero => simp at ha hb; subst ha; subst hb; exact h2
    | succ i => exact g3 i a b (by simpa using ha) (by simpa using hb)
  | [], _ :: _, h => h.elim
  | _ :: _, [], h => h.elim
theorem dE.d {σ : az} {vs : List V} {d : D} {ds : List D} (h : dE σ vs ds) : dE σ (.d d :: vs) (d :: ds) := ⟨⟨d, rfl, .refl _⟩, h⟩
theorem dE.nl {σ : az} {vs : List V} {k : Option Nat} {ds : List D} (h : dE σ vs ds) : dE σ (.d .nils :: vs) (.vec k [] :: ds) := ⟨⟨.nils, rfl, .nils k⟩, h⟩
theorem dE.loc {σ : az} {vs : List V} {id len : Nat} {m : Bool} {k : Option Nat} {α : Type} {xs : List α} {e : α → D} {ds : List D} (hid : σ id = some (.lst m k (xs.map e))) (hl : len = xs.length) (h : dE σ vs ds) : dE σ (.loc id 0 len :: vs) (.vec k (xs.map e) :: ds) :=
  ⟨⟨_, mE hid (by simpa using hl), .refl _⟩, h⟩
theorem RV.agg {σ : az} {vs cs : List V} {es ds : List D} (hc : dE σ cs es) (h : RV σ vs ds) : RV σ (.agg cs :: vs) (.agg es :: ds) := by
  obtain ⟨es0, g1, g2, g3⟩ := hc.all
  exact ⟨⟨.agg es0, by simp [dP, g1], .agg _ _ g2 g3⟩, h⟩
def gW : List D → List D → Prop
  | [], [] => True
  | a :: l, b :: r => cJ a b ∧ gW l r
  | _, _ => False
theorem gW.all : ∀ {l r : List D}, gW l r → l.length = r.length ∧ ∀ (i : Nat) a b, l[i]? = some a → r[i]? = some b → cJ a b
  | [], [], _ => ⟨rfl, fun i a b h => by simp at h⟩
  | x :: l, y :: r, h => by
    obtain ⟨h1, h2⟩ := gW.all h.2
    refine ⟨by simp [h1], fun i u v hu hv => ?_⟩
    cases i with
    | zero => simp at hu hv; subst hu; subst hv; exact h.1
    | succ i => exact h2 i u v (by simpa using hu) (by simpa using hv)
  | [], _ :: _, h => h.elim
  | _ :: _, [], h => h.elim
theorem cJ.aggs {l r : List D} (h : gW l r) : cJ (.agg l) (.agg r) := .agg l r h.all.1 h.all.2
theorem bn {res : List d6} {e : Exit} {s' : S} {v : V} {d : D} (he : e = .normal ∨ e = .ret) (h1 : db s' res = some [v]) (h2 : RV s'.σ [v] [d]) : FQ res d e s' := by
  obtain ⟨⟨d0, g1, g2⟩, _⟩ := h2
  refine ⟨he, [v], h1, d0, ?_, g2⟩
  cases v with
  | tup vs => simp [dP, d7] at g1
  | _ => exact g1
theorem dF {res : List d6} {e : Exit} {s' : S} {v v' : V} {vs : List V} {ds : List D} (he : e = .normal ∨ e = .ret) (h1 : db s' res = some (v :: v' :: vs)) (h2 : RV s'.σ (v :: v' :: vs) ds) : FQ res (.tup ds) e s' := by
  obtain ⟨ds0, g1, g2, g3⟩ := h2.all
  refine ⟨he, _, h1, .tup ds0, ?_, .tup _ _ g2 g3⟩
  show ga s'.σ (gC (v :: v' :: vs)) = _
  unfold gC
  split
  · rename_i xs hx
    have : bP ((v :: v' :: vs).map (dP s'.σ)) = some xs := by
      have key : ∀ (l : List V) (xs : List D), bP (l.map V.toD) = some xs → bP (l.map (dP s'.σ)) = some xs := by
        intro l
        induction l with
        | nil => intro xs h; exact h
        | cons u l ih =>
          intro xs h
          cases u <;> simp [V.toD] at h
          rename_i q
          obtain ⟨ys, h1, rfl⟩ := h
          simp [dP, d7, ih ys h1]
      exact key _ _ hx
    rw [this] at g1
    cases g1
    rfl
  · simp only [ga, g1, Option.map_some]
theorem qC {vs : List V} {id len : Nat} {k : Option Nat} {α : Type} {xs : List α} {e : α → D} {ds : List D} (hid : σ id = some (.lst false k (xs.map e))) (hl : len = xs.length) (h : aS σ vs ds) : aS σ (.loc id 0 len :: vs) (.vec k (xs.map e) :: ds) := aS.lc hid (by simpa using hl) h
theorem gj {β γ : Type} {f : β → Option γ} {a : β} {x : γ} {l : List β} {r : List γ} (h : f a = some x) (h' : bP (l.map f) = some r) : bP ((a :: l).map f) = some (x :: r) := by
  simp [h, h']
theorem qD {β γ : Type} {f : β → Option γ} : bP (([] : List β).map f) = some [] := rfl
theorem mF {id len : Nat} {k : Option Nat} {α : Type} {xs : List α} {e : α → D} (hid : σ id = some (.lst false k (xs.map e))) (hl : len = xs.length) : cE σ (.loc id 0 len) = some (.vec k (xs.map e)) := by
  subst hl
  simp only [cE, hid]
  rw [if_pos (by simp)]
  congr 2
  rw [List.drop_zero]
  exact List.take_of_length_le (by simp)
theorem gX {x : D} : cE σ (.d x) = some x := rfl
theorem qE {cs : List V} {ds : List D} (h : bP (cs.map (cE σ)) = some ds) : cF σ (.agg cs) = some (.agg ds) := by
  simp [cF, h]
theorem j0 {id len : Nat} {k : Option Nat} {α : Type} {xs : List α} {e : α → D} (hid : σ id = some (.lst false k (xs.map e))) (hl : len = xs.length) : cF σ (.loc id 0 len) = some (.vec k (xs.map e)) := mF hid hl
def gk (σ : az) : List V → List V → Prop
  | [], [] => True
  | x :: l, y :: r => (x = y ∨ ∃ d, cF σ x = some d ∧ y = .d d) ∧ gk σ l r
  | _, _ => False
theorem gk.all {σ : az} : ∀ {l r : List V}, gk σ l r → l.length = r.length ∧ ∀ (i : Nat) y, r[i]? = some y → ∃ x, l[i]? = some x ∧ (x = y ∨ ∃ d, cF σ x = some d ∧ y = .d d)
  | [], [], _ => ⟨rfl, fun i y h => by simp at h⟩
  | x :: l, y :: r, h => by
    obtain ⟨h1, h2⟩ := gk.all h.2
    refine ⟨by simp [h1], fun i z hz => ?_⟩
    cases i with
    | zero => simp at hz; subst hz; exact ⟨x, rfl, h.1⟩
    | succ i => exact h2 i z (by simpa using hz)
  | [], _ :: _, h => h.elim
  | _ :: _, [], h => h.elim
theorem bO.sees {P : Program} {f : Nat} {vals vals' : List V} {σ σ' : az} {n n' : Nat} {v : V} (h : dN P f vals' σ n v σ' n') (hv : gk σ vals vals') : dN P f vals σ n v σ' n' := by
  obtain ⟨hl, hv⟩ := hv.all
  refine ⟨h.1, fun A μ w vs hs hfr hlen hrel => h.2 A μ w vs hs hfr (by omega) fun i y u hy hu => ?_⟩
  obtain ⟨x, hx, rfl | ⟨d, hd, rfl⟩⟩ := hv i y hy
  · exact hrel i x u hx hu
  · exact .d _ _ (jr hs hd (hrel i x u hx hu))
theorem mG {ks : List Ck} {a b : List D} {p : Bool} (h1 : a.length = ks.length) (h2 : b.length = ks.length) (h : bV ks a b = some p) : fh ks (.d (.agg a)) (.d (.agg b)) = some p := by
  simp [fh, h1, h2, h]
theorem mH {a b : ByteArray} : a.toList = b.toList ↔ a = b := by
  rw [ByteArray.toList_eq, ByteArray.toList_eq]
  constructor
  · intro h
    have : a.data = b.data := Array.toList_inj.1 h
    cases a; cases b; simp at this; subst this; rfl
  · rintro rfl; rfl
theorem dS.c {v : V} {d : D} {l : List V} {r : List D} (h : cN σ v d) (h' : dS σ l r) : dS σ (v :: l) (d :: r) := ⟨h, h'⟩
theorem dS.nil0 : dS σ [] [] := trivial
theorem aY.c {ρ : Nat → Nat} {n0 : Nat} {v u : V} {l r : List V} (h : VN ρ n0 v u) (h' : aY ρ n0 l r) : aY ρ n0 (v :: l) (u :: r) := ⟨h, h'⟩
theorem aY.nil0 {ρ : Nat → Nat} {n0 : Nat} : aY ρ n0 [] [] := trivial
theorem SN.c {ρ : Nat → Nat} {n0 i : Nat} {b b' : aQ} {l : List (Nat × aQ)} (hi : i < n0) (hb : σ (ρ i) = some b') (h : BN ρ n0 b' b) (h' : SN ρ n0 σ l) : SN ρ n0 σ ((i, b) :: l) := ⟨⟨hi, b', hb, h⟩, h'⟩
theorem SN.nil0 {ρ : Nat → Nat} {n0 : Nat} : SN ρ n0 σ [] := trivial
theorem c4 {m i : Nat} {b : aQ} {l : List (Nat × aQ)} (h : i < m) (h' : ∀ q ∈ l, q.1 < m) : ∀ q ∈ (i, b) :: l, q.1 < m := by
  intro q hq
  rcases List.mem_cons.1 hq with rfl | hq
  · exact h
  · exact h' q hq
theorem dG {m : Nat} : ∀ q ∈ ([] : List (Nat × aQ)), q.1 < m := by intro q hq; cases hq
end
end Go.AM
