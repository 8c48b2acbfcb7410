import Derived.Test.YtnnkfanmokeiaaaAmN5
import Derived.Laws.Strings
set_option linter.unusedVariables false
set_option linter.unusedSectionVars false
set_option linter.unusedSimpArgs false
namespace Go.AM
open Go Go.RowKit
variable [Glob]
section
variable {P : Program} {N na : Nat} {A : Nat → Nat → Prop} {μ μ' : Nat → Option bh} {T T' : Nat → V} {σ σ' : az} {w w' : World} {a : Act} {n n' : Nat} {l : List br} {dst : Option Nat} {op : bd} {K : S → Prop}
theorem cM {α β : Type} {o : Option α} {g : α → β} {x : β} (h : o.map g = some x) : ∃ y, o = some y ∧ g y = x := by
  cases o with
  | none => cases h
  | some y => exact ⟨y, rfl, ar h⟩
theorem BN.vars {ρ : Nat → Nat} {n0 : Nat} {vs us : List V} (h : ct ρ n0 vs us) : BN ρ n0 (.var vs) (.var us) := .var vs us h.all.1 h.all.2
theorem VN.aggs {ρ : Nat → Nat} {n0 : Nat} {vs us : List V} (h : ct ρ n0 vs us) : VN ρ n0 (.agg vs) (.agg us) := .agg vs us h.all.1 h.all.2
theorem kN {s : S} (t : Nat) (m : Bool) (k : Option Nat) (h : s.T t = .d .nils) : bY na s ⟨ak s.T t (.loc s.n 0 0), ak s.σ s.n (some (.lst m k [])), s.n + 1⟩ := by
  refine bY.nil _ m k fun i => ?_
  by_cases e : i = t
  · subst e; exact .inr ⟨bk _ _ _, h⟩
  · exact .inl (aT _ _ e)
def mB (T : Nat → V) (ts : List Nat) (v : V) : Nat → V := fun i => if ts.contains i then v else T i
theorem um {s : S} (k : Nat) {v : V} {d : D} (hT : s.T k = v) (hv : cD s.σ v = some d) : bY na s ⟨mB s.T [k] (.d d), s.σ, s.n⟩ := by
  intro N A μ a w ⟨hs, hfr⟩
  refine ⟨μ, ⟨⟨hs.size, hs.defers, fun i => ?_, hs.store⟩, hfr⟩, (aM.refl _ _ _).ng⟩
  unfold mB
  by_cases c : i = k
  · subst c
    have : ([i] : List Nat).contains i = true := by simp
    simp only [this, if_true]
    have h0 := hs.tmps i
    rw [hT] at h0
    exact .d _ _ (iH hs.store hv h0)
  · have : ([k] : List Nat).contains i = false := by simpa using c
    simp only [this, Bool.false_eq_true, if_false]
    exact hs.tmps i
theorem yW {s : S} (t : Nat) {id : Nat} {k : Option Nat} {α : Type} {xs l : List α} {e : α → D} {lo hi : Int} (hT : s.T t = .loc id lo.toNat (hi.toNat - lo.toNat)) (hid : s.σ id = some (.lst false k (xs.map e))) (hc : cV xs lo hi = some l) : bY na s ⟨mB s.T [t] (.d (.vec k (l.map e))), s.σ, s.n⟩ := by
  refine um t hT ?_
  unfold cV at hc
  split at hc
  · rename_i h
    cases hc
    simp only [cD, hid, List.length_map]
    rw [if_pos (by omega), List.map_take, List.map_drop]
  · cases hc
section
variable {α : Type} {e : α → D} {x y : AX} {k kb : Option Nat}
theorem qg {β : Type} {id : Nat} {xs l : List β} {lo hi : Int} (hx : aC T x = .loc id lo.toNat (hi.toNat - lo.toNat)) (hc : cV xs lo hi = some l) : aB (.len x) (aC T) σ n = some (.d (.int .i64 l.length), σ, n) := by
  have : hi.toNat - lo.toNat = l.length := by
    unfold cV at hc
    split at hc
    · cases hc; simp; omega
    · cases hc
  simp [aB, hx, this]
theorem bK {xs : List α} (hx : aC T x = .d (.vec k (xs.map e))) : aB (.len x) (aC T) σ n = some (.d (.int .i64 xs.length), σ, n) := by simp [aB, hx]
theorem mC {d z : D} {j : Nat} (hx : aC T x = .d (.cptr kb d j)) (hd : dY kb d j k = some z) : aB (.ldI k x) (aC T) σ n = some (.d z, σ, n) := by simp [aB, hx, hd]
theorem mD (ds : List D) : hE (ds.map V.d) = .d (.agg ds) := by
  have : bP ((ds.map V.d).map V.toD) = some ds := by
    induction ds with
    | nil => rfl
    | cons d ds ih => simp only [List.map_cons, V.toD, jo]; rw [ih]; rfl
  simp only [hE, this]
def ig : Nat → List V → List V → List V
  | 0, [], cs => cs
  | 0, v :: vs, [] => v :: vs
  | 0, v :: vs, _ :: cs => v :: ig 0 vs cs
  | _ + 1, vs, [] => vs
  | off + 1, vs, c :: cs => c :: ig off vs cs
theorem mE : ∀ (off : Nat) (vs cs : List V), off + vs.length ≤ cs.length → ig off vs cs = cs.take off ++ vs ++ cs.drop (off + vs.length)
  | 0, [], cs, _ => by simp [ig]
  | 0, v :: vs, [], h => by simp at h
  | 0, v :: vs, c :: cs, h => by
    have := mE 0 vs cs (by simp at h ⊢; omega)
    simp [ig, this]
  | off + 1, vs, [], h => by simp at h
  | off + 1, vs, c :: cs, h => by
    have := mE off vs cs (by simp at h ⊢; omega)
    rw [show off + 1 + vs.length = (off + vs.length) + 1 by omega]
    simp [ig, this]
def kO (cells : List V) : List (Nat × Nat × V) → Option (List V)
  | [] => some cells
  | (off, size, v) :: r =>
    if v.cells.all V.one = true ∧ v.cells.length = size ∧ off + size ≤ cells.length then kO (ig off v.cells cells) r else none
theorem qh : ∀ (parts : List (Nat × Nat × V)) (cells : List V), kO cells parts = gf cells parts
  | [], _ => rfl
  | (off, size, v) :: r, cells => by
    simp only [kO, gf]
    split
    · rename_i h
      obtain ⟨_, h2, h3⟩ := h
      subst h2
      rw [mE off v.cells cells h3, qh r]
    · rfl
theorem dT {zero : List D} {parts : List (Nat × Nat × AX)} {ds : List D} (h : kO (zero.map V.d) (parts.map fun p => (p.1, p.2.1, aC T p.2.2)) = some (ds.map V.d)) : aB (.build zero parts) (aC T) σ n = some (.d (.agg ds), σ, n) := by
  rw [qh] at h
  simp only [aB, h, Option.map_some, mD]
theorem bt {m id j : Nat} {cs : List V} {ds : List D} (hx : aC T x = .ptr id 0 j) (hid : σ id = some (.var cs)) (hl : j + m ≤ cs.length) (hs : (cs.drop j).take m = ds.map V.d) : aB (.load (some m) x) (aC T) σ n = some (.d (.agg ds), σ, n) := by
  simp only [aB, cn, hx, hid, ew, Nat.zero_add, if_pos hl, hs, mD, Option.map_some]
theorem iR {s : S} {t m id j : Nat} {cs : List V} {ds : List D} {l : List ef} {vs : List V} (hx : s.T t = .ptr id 0 j) (hid : s.σ id = some (.var cs)) (hl : j + m ≤ cs.length) (hs : (cs.drop j).take m = ds.map V.d) (hr : dJ s l = some vs) : dJ s (.cell t (some m) :: l) = some (.d (.agg ds) :: vs) := by
  simp only [dJ, jF, cn, hx, hid, ew, Nat.zero_add, if_pos hl, hs, mD, hr]
theorem bo {s : S} {t : Nat} {v : V} {l : List ef} {vs : List V} (hx : s.T t = v) (hr : dJ s l = some vs) : dJ s (.t t :: l) = some (v :: vs) := by
  simp only [dJ, jF, hx, hr]
theorem mF {m : Nat} {xs : List α} {i : Int} {v : α} {kk : IntKind} {d : D} {j : Nat} (h : bv xs i = some v) (hm : xs.length = m) (hx : aC T x = .d (.cptr kb d j)) (hy : aC T y = .d (.int kk i)) : aB (.iaddrA m k x y) (aC T) σ n = some (.d (.cptr kb d (j + i.toNat * ao k)), σ, n) := by
  obtain ⟨h0, h1⟩ := kK h
  have : i < (m : Int) := by omega
  simp [aB, hx, hy, h0, this]
theorem uo {m : Nat} {xs : List α} {i : Int} {v : α} {kk : IntKind} {id q j : Nat} (h : bv xs i = some v) (hm : xs.length = m) (hx : aC T x = .ptr id q j) (hy : aC T y = .d (.int kk i)) : aB (.iaddrA m k x y) (aC T) σ n = some (.ptr id q (j + i.toNat * ao k), σ, n) := by
  obtain ⟨h0, h1⟩ := kK h
  have : i < (m : Int) := by omega
  simp [aB, hx, hy, h0, this]
theorem ur {xs xs' : List α} {i : Int} {v : α} {id j : Nat} {pre post : List V} (h : cK xs i v = some xs') (hx : aC T x = .ptr id 0 (j + i.toNat * 1)) (hy : aC T y = .d (e v)) (hid : σ id = some (.var (pre ++ (xs.map (fun x => V.d (e x)) ++ post)))) (hj : pre.length = j)
    (hc : (e v).cells = [e v]) (h1 : (e v).one = true) : aB (.store none x y) (aC T) σ n = some (V.undef, ak σ id (some (.var (pre ++ (xs'.map (fun x => V.d (e x)) ++ post)))), n) := by
  obtain ⟨h0, hlt, rfl⟩ := iO h
  subst hj
  have e1 : (V.d (e v)).cells = [V.d (e v)] := by simp [V.cells, hc]
  have e2 : (V.d (e v)).one = true := h1
  have hle : 0 + (pre.length + i.toNat) + 1 ≤ (pre ++ (xs.map (fun x => V.d (e x)) ++ post)).length := by simp; omega
  have key : (pre ++ (xs.map (fun x => V.d (e x)) ++ post)).take (pre.length + i.toNat) ++ [V.d (e v)] ++ (pre ++ (xs.map (fun x => V.d (e x)) ++ post)).drop (pre.length + i.toNat + 1) = pre ++ ((xs.set i.toNat v).map (fun x => V.d (e x)) ++ post) := by
    rw [← List.set_eq_take_append_cons_drop_aux (by simp; omega)]
    rw [List.set_append_right _ _ (by omega), Nat.add_sub_cancel_left, List.set_append_left _ _ (by simpa using hlt), List.map_set]
  simp only [aB, eG, hx, hy, hid, e1, Nat.mul_one]
  rw [if_pos ⟨rfl, by simp [e2], by simpa [ao] using hle⟩]
  simp only [ao, Option.getD_none, Nat.zero_add, Option.map_some]
  rw [key]
where
  List.set_eq_take_append_cons_drop_aux {β : Type} {l : List β} {m : Nat} {v : β} (h : m < l.length) : l.set m v = l.take m ++ [v] ++ l.drop (m + 1) := by
    rw [List.set_eq_take_append_cons_drop, if_pos h]; simp
theorem A8.put_l {a a' : A8 α} {i : Int} {v : α} (h : a.put i v = some a') : cK a.l i v = some a'.l := by
  unfold A8.put at h
  cases hg : cK a.l i v with
  | none => rw [hg] at h; cases h
  | some xs =>
    rw [hg] at h
    obtain ⟨_, _, rfl⟩ := iO hg
    have hl : (a.l.set i.toNat v).length = 8 := by simp [A8.l]
    generalize a.l.set i.toNat v = q at h hl
    match q, hl with
    | [_, _, _, _, _, _, _, _], _ => cases h; rfl
theorem A2.put_l {a a' : A2 α} {i : Int} {v : α} (h : a.put i v = some a') : cK a.l i v = some a'.l := by
  unfold A2.put at h
  cases hg : cK a.l i v with
  | none => rw [hg] at h; cases h
  | some xs =>
    rw [hg] at h
    obtain ⟨_, _, rfl⟩ := iO hg
    have hl : (a.l.set i.toNat v).length = 2 := by simp [A2.l]
    generalize a.l.set i.toNat v = q at h hl
    match q, hl with
    | [_, _], _ => cases h; rfl
end
def RV (σ : az) : List V → List D → Prop
  | [], [] => True
  | v :: l, d :: r => (∃ d0, eN σ v = some d0 ∧ cF d0 d) ∧ RV σ l r
  | _, _ => False
theorem RV.all {σ : az} : ∀ {vs : List V} {ds : List D}, RV σ vs ds → ∃ ds0, bP (vs.map (eN σ)) = some ds0 ∧ ds0.length = ds.length ∧ ∀ (i : Nat) a b, ds0[i]? = some a → ds[i]? = some b → cF a b
  | [], [], _ => ⟨[], rfl, rfl, fun i a b h => by simp at h⟩
  | v :: vs, d :: ds, ⟨⟨d0, h1, h2⟩, h3⟩ => by
    obtain ⟨ds0, g1, g2, g3⟩ := RV.all h3
    refine ⟨d0 :: ds0, by simp [h1, g1], by simp [g2], fun i a b ha hb => ?_⟩
    cases i with
    | zero => simp at ha hb; subst ha; subst hb; exact h2
    | succ i => exact g3 i a b (by simpa using ha) (by simpa using hb)
  | [], _ :: _, h => h.elim
  | _ :: _, [], h => h.elim
theorem RV.d {σ : az} {vs : List V} {d : D} {ds : List D} (h : RV σ vs ds) : RV σ (.d d :: vs) (d :: ds) := ⟨⟨d, rfl, .refl _⟩, h⟩
theorem RV.sub {σ : az} {vs : List V} {d0 d : D} {ds : List D} (hs : cF d0 d) (h : RV σ vs ds) : RV σ (.d d0 :: vs) (d :: ds) := ⟨⟨d0, rfl, hs⟩, h⟩
theorem RV.nl {σ : az} {vs : List V} {k : Option Nat} {ds : List D} (h : RV σ vs ds) : RV σ (.d .nils :: vs) (.vec k [] :: ds) := ⟨⟨.nils, rfl, .nils k⟩, h⟩
theorem qi {σ : az} {id len : Nat} {m : Bool} {k : Option Nat} {els : List D} (hid : σ id = some (.lst m k els)) (hl : len = els.length) : ff σ (.loc id 0 len) = some (.vec k els) := by
  subst hl; simp [ff, hid]
theorem RV.loc {σ : az} {vs : List V} {id len : Nat} {m : Bool} {k : Option Nat} {α : Type} {xs : List α} {e : α → D} {ds : List D} (hid : σ id = some (.lst m k (xs.map e))) (hl : len = xs.length) (h : RV σ vs ds) : RV σ (.loc id 0 len :: vs) (.vec k (xs.map e) :: ds) :=
  ⟨⟨_, qi hid (by simpa using hl), .refl _⟩, h⟩
def eC (σ : az) : List V → List D → Prop
  | [], [] => True
  | v :: l, d :: r => (∃ d0, ff σ v = some d0 ∧ cF d0 d) ∧ eC σ l r
  | _, _ => False
theorem eC.all {σ : az} : ∀ {vs : List V} {ds : List D}, eC σ vs ds → ∃ ds0, bP (vs.map (ff σ)) = some ds0 ∧ ds0.length = ds.length ∧ ∀ (i : Nat) a b, ds0[i]? = some a → ds[i]? = some b → cF a b
  | [], [], _ => ⟨[], rfl, rfl, fun i a b h => by simp at h⟩
  | v :: vs, d :: ds, ⟨⟨d0, h1, h2⟩, h3⟩ => by
    obtain ⟨ds0, g1, g2, g3⟩ := eC.all h3
    refine ⟨d0 :: ds0, by simp [h1, g1], by simp [g2], fun i a b ha hb => ?_⟩
    cases i with
    | zero => simp at ha hb; subst ha; subst hb; exact h2
    | succ i => exact g3 i a b (by simpa using ha) (by simpa using hb)
  | [], _ :: _, h => h.elim
  | _ :: _, [], h => h.elim
theorem eC.d {σ : az} {vs : List V} {d : D} {ds : List D} (h : eC σ vs ds) : eC σ (.d d :: vs) (d :: ds) := ⟨⟨d, rfl, .refl _⟩, h⟩
theorem eC.nl {σ : az} {vs : List V} {k : Option Nat} {ds : List D} (h : eC σ vs ds) : eC σ (.d .nils :: vs) (.vec k [] :: ds) := ⟨⟨.nils, rfl, .nils k⟩, h⟩
theorem eC.loc {σ : az} {vs : List V} {id len : Nat} {m : Bool} {k : Option Nat} {α : Type} {xs : List α} {e : α → D} {ds : List D} (hid : σ id = some (.lst m k (xs.map e))) (hl : len = xs.length) (h : eC σ vs ds) : eC σ (.loc id 0 len :: vs) (.vec k (xs.map e) :: ds) :=
  ⟨⟨_, qi hid (by simpa using hl), .refl _⟩, h⟩
theorem RV.agg {σ : az} {vs cs : List V} {es ds : List D} (hc : eC σ cs es) (h : RV σ vs ds) : RV σ (.agg cs :: vs) (.agg es :: ds) := by
  obtain ⟨es0, g1, g2, g3⟩ := hc.all
  exact ⟨⟨.agg es0, by simp [eN, g1], .agg _ _ g2 g3⟩, h⟩
def jL : List D → List D → Prop
  | [], [] => True
  | a :: l, b :: r => cF a b ∧ jL l r
  | _, _ => False
theorem jL.all : ∀ {l r : List D}, jL l r → l.length = r.length ∧ ∀ (i : Nat) a b, l[i]? = some a → r[i]? = some b → cF a b
  | [], [], _ => ⟨rfl, fun i a b h => by simp at h⟩
  | x :: l, y :: r, h => by
    obtain ⟨h1, h2⟩ := jL.all h.2
    refine ⟨by simp [h1], fun i u v hu hv => ?_⟩
    cases i with
    | zero => simp at hu hv; subst hu; subst hv; exact h.1
    | succ i => exact h2 i u v (by simpa using hu) (by simpa using hv)
  | [], _ :: _, h => h.elim
  | _ :: _, [], h => h.elim
theorem cF.aggs {l r : List D} (h : jL l r) : cF (.agg l) (.agg r) := .agg l r h.all.1 h.all.2
theorem bp {res : List ef} {e : Exit} {s' : S} {v : V} {d : D} (he : e = .normal ∨ e = .ret) (h1 : dJ s' res = some [v]) (h2 : RV s'.σ [v] [d]) : FQ res d e s' := by
  obtain ⟨⟨d0, g1, g2⟩, _⟩ := h2
  refine ⟨he, [v], h1, d0, ?_, g2⟩
  cases v with
  | tup vs => simp [eN, ff] at g1
  | _ => exact g1
theorem jM {res : List ef} {e : Exit} {s' : S} {v v' : V} {vs : List V} {ds : List D} (he : e = .normal ∨ e = .ret) (h1 : dJ s' res = some (v :: v' :: vs)) (h2 : RV s'.σ (v :: v' :: vs) ds) : FQ res (.tup ds) e s' := by
  obtain ⟨ds0, g1, g2, g3⟩ := h2.all
  refine ⟨he, _, h1, .tup ds0, ?_, .tup _ _ g2 g3⟩
  show iK s'.σ (jp (v :: v' :: vs)) = _
  unfold jp
  split
  · rename_i xs hx
    have : bP ((v :: v' :: vs).map (eN s'.σ)) = some xs := by
      have key : ∀ (l : List V) (xs : List D), bP (l.map V.toD) = some xs → bP (l.map (eN s'.σ)) = some xs := by
        intro l
        induction l with
        | nil => intro xs h; exact h
        | cons u l ih =>
          intro xs h
          cases u <;> simp [V.toD] at h
          rename_i q
          obtain ⟨ys, h1, rfl⟩ := h
          simp [eN, ff, ih ys h1]
      exact key _ _ hx
    rw [this] at g1
    cases g1
    rfl
  · simp only [iK, g1, Option.map_some]
theorem mG {vs : List V} {id len : Nat} {k : Option Nat} {α : Type} {xs : List α} {e : α → D} {ds : List D} (hid : σ id = some (.lst false k (xs.map e))) (hl : len = xs.length) (h : aG σ vs ds) : aG σ (.loc id 0 len :: vs) (.vec k (xs.map e) :: ds) := aG.lc hid (by simpa using hl) h
theorem cN {β γ : Type} {f : β → Option γ} {a : β} {x : γ} {l : List β} {r : List γ} (h : f a = some x) (h' : bP (l.map f) = some r) : bP ((a :: l).map f) = some (x :: r) := by
  simp [h, h']
theorem jN {β γ : Type} {f : β → Option γ} : bP (([] : List β).map f) = some [] := rfl
theorem jO {id len : Nat} {k : Option Nat} {α : Type} {xs : List α} {e : α → D} (hid : σ id = some (.lst false k (xs.map e))) (hl : len = xs.length) : cD σ (.loc id 0 len) = some (.vec k (xs.map e)) := by
  subst hl
  simp only [cD, hid]
  rw [if_pos (by simp)]
  congr 2
  rw [List.drop_zero]
  exact List.take_of_length_le (by simp)
theorem dE {x : D} : cD σ (.d x) = some x := rfl
theorem kP {cs : List V} {ds : List D} (h : bP (cs.map (cD σ)) = some ds) : cC σ (.agg cs) = some (.agg ds) := by
  simp [cC, h]
theorem ut {id len : Nat} {k : Option Nat} {α : Type} {xs : List α} {e : α → D} (hid : σ id = some (.lst false k (xs.map e))) (hl : len = xs.length) : cC σ (.loc id 0 len) = some (.vec k (xs.map e)) := jO hid hl
theorem uv {parts : List AX} {m : Bool} {k : Option Nat} {ds : List D} (h : bP (parts.map fun x => cC σ (aC T x)) = some ds) (hs : ds.all (fun d => d.shape k && d.cells.all D.one) = true) : aB (.bsliceV k parts m) (aC T) σ n = some (.loc n 0 ds.length, ak σ n (some (.lst m k ds)), n + 1) := by
  simp only [aB, h, hs, if_true]
def jP (σ : az) : List V → List V → Prop
  | [], [] => True
  | x :: l, y :: r => (x = y ∨ ∃ d, cC σ x = some d ∧ y = .d d) ∧ jP σ l r
  | _, _ => False
theorem jP.all {σ : az} : ∀ {l r : List V}, jP σ l r → l.length = r.length ∧ ∀ (i : Nat) y, r[i]? = some y → ∃ x, l[i]? = some x ∧ (x = y ∨ ∃ d, cC σ x = some d ∧ y = .d d)
  | [], [], _ => ⟨rfl, fun i y h => by simp at h⟩
  | x :: l, y :: r, h => by
    obtain ⟨h1, h2⟩ := jP.all h.2
    refine ⟨by simp [h1], fun i z hz => ?_⟩
    cases i with
    | zero => simp at hz; subst hz; exact ⟨x, rfl, h.1⟩
    | succ i => exact h2 i z (by simpa using hz)
  | [], _ :: _, h => h.elim
  | _ :: _, [], h => h.elim
theorem co.sees {P : Program} {f : Nat} {vals vals' : List V} {σ σ' : az} {n n' : Nat} {v : V} (h : eJ P f vals' σ n v σ' n') (hv : jP σ vals vals') : eJ P f vals σ n v σ' n' := by
  obtain ⟨hl, hv⟩ := hv.all
  refine ⟨h.1, fun A μ w vs hs hfr hlen hrel => h.2 A μ w vs hs hfr (by omega) fun i y u hy hu => ?_⟩
  obtain ⟨x, hx, rfl | ⟨d, hd, rfl⟩⟩ := hv i y hy
  · exact hrel i x u hx hu
  · exact .d _ _ (me hs hd (hrel i x u hx hu))
theorem uw {ks : List Ck} {a b : List D} {p : Bool} (h1 : a.length = ks.length) (h2 : b.length = ks.length) (h : b8 ks a b = some p) : hJ ks (.d (.agg a)) (.d (.agg b)) = some p := by
  simp [hJ, h1, h2, h]
theorem uz {a b : ByteArray} : a.toList = b.toList ↔ a = b := by
  rw [ByteArray.toList_eq, ByteArray.toList_eq]
  constructor
  · intro h
    have : a.data = b.data := Array.toList_inj.1 h
    cases a; cases b; simp at this; subst this; rfl
  · rintro rfl; rfl
theorem eR.c {v : V} {d : D} {l : List V} {r : List D} (h : da σ v d) (h' : eR σ l r) : eR σ (v :: l) (d :: r) := ⟨h, h'⟩
theorem eR.nil0 : eR σ [] [] := trivial
theorem ct.c {ρ : Nat → Nat} {n0 : Nat} {v u : V} {l r : List V} (h : VN ρ n0 v u) (h' : ct ρ n0 l r) : ct ρ n0 (v :: l) (u :: r) := ⟨h, h'⟩
theorem ct.nil0 {ρ : Nat → Nat} {n0 : Nat} : ct ρ n0 [] [] := trivial
theorem SN.c {ρ : Nat → Nat} {n0 i : Nat} {b b' : bf} {l : List (Nat × bf)} (hi : i < n0) (hb : σ (ρ i) = some b') (h : BN ρ n0 b' b) (h' : SN ρ n0 σ l) : SN ρ n0 σ ((i, b) :: l) := ⟨⟨hi, b', hb, h⟩, h'⟩
theorem SN.nil0 {ρ : Nat → Nat} {n0 : Nat} : SN ρ n0 σ [] := trivial
theorem jQ {m i : Nat} {b : bf} {l : List (Nat × bf)} (h : i < m) (h' : ∀ q ∈ l, q.1 < m) : ∀ q ∈ (i, b) :: l, q.1 < m := by
  intro q hq
  rcases List.mem_cons.1 hq with rfl | hq
  · exact h
  · exact h' q hq
theorem jR {m : Nat} : ∀ q ∈ ([] : List (Nat × bf)), q.1 < m := by intro q hq; cases hq
end
end Go.AM
