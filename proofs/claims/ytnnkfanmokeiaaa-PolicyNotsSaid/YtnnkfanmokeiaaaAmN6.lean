import Derived.Test.YtnnkfanmokeiaaaAmN5
import Derived.Laws.Strings
set_option linter.unusedVariables false
set_option linter.unusedSectionVars false
set_option linter.unusedSimpArgs false
namespace Go.AM
open Go Go.RowKit
variable [Glob]
section
variable {P : Program} {N na : Nat} {A : Nat → Nat → Prop} {μ μ' : Nat → Option bg} {T T' : Nat → V} {σ σ' : ax} {w w' : World} {a : Act} {n n' : Nat} {l : List bq} {dst : Option Nat} {op : aW} {K : S → Prop}
theorem c5 {α β : Type} {o : Option α} {g : α → β} {x : β} (h : o.map g = some x) : ∃ y, o = some y ∧ g y = x := by
  cases o with
  | none => cases h
  | some y => exact ⟨y, rfl, ap h⟩
theorem BN.vars {ρ : Nat → Nat} {n0 : Nat} {vs us : List V} (h : bR ρ n0 vs us) : BN ρ n0 (.var vs) (.var us) := .var vs us h.all.1 h.all.2
theorem VN.aggs {ρ : Nat → Nat} {n0 : Nat} {vs us : List V} (h : bR ρ n0 vs us) : VN ρ n0 (.agg vs) (.agg us) := .agg vs us h.all.1 h.all.2
theorem jD {s : S} (t : Nat) (m : Bool) (k : Option Nat) (h : s.T t = .d .nils) : bU na s ⟨al s.T t (.loc s.n 0 0), al s.σ s.n (some (.lst m k [])), s.n + 1⟩ := by
  refine bU.nil _ m k fun i => ?_
  by_cases e : i = t
  · subst e; exact .inr ⟨be _ _ _, h⟩
  · exact .inl (aR _ _ e)
def la (T : Nat → V) (ts : List Nat) (v : V) : Nat → V := fun i => if ts.contains i then v else T i
theorem rU {s : S} (k : Nat) {v : V} {d : D} (hT : s.T k = v) (hv : ct s.σ v = some d) : bU na s ⟨la s.T [k] (.d d), s.σ, s.n⟩ := by
  intro N A μ a w ⟨hs, hfr⟩
  refine ⟨μ, ⟨⟨hs.size, hs.defers, fun i => ?_, hs.store⟩, hfr⟩, (aO.refl _ _ _).ng⟩
  unfold la
  by_cases c : i = k
  · subst c
    have : ([i] : List Nat).contains i = true := by simp
    simp only [this, if_true]
    have h0 := hs.tmps i
    rw [hT] at h0
    exact .d _ _ (gI hs.store hv h0)
  · have : ([k] : List Nat).contains i = false := by simpa using c
    simp only [this, Bool.false_eq_true, if_false]
    exact hs.tmps i
theorem wl {s : S} (t : Nat) {id : Nat} {k : Option Nat} {α : Type} {xs l : List α} {e : α → D} {lo hi : Int} (hT : s.T t = .loc id lo.toNat (hi.toNat - lo.toNat)) (hid : s.σ id = some (.lst false k (xs.map e))) (hc : dc xs lo hi = some l) : bU na s ⟨la s.T [t] (.d (.vec k (l.map e))), s.σ, s.n⟩ := by
  refine rU t hT ?_
  unfold dc at hc
  split at hc
  · rename_i h
    cases hc
    simp only [ct, hid, List.length_map]
    rw [if_pos (by omega), List.map_take, List.map_drop]
  · cases hc
section
variable {α : Type} {e : α → D} {x y : AX} {k kb : Option Nat}
theorem rV {β : Type} {id : Nat} {xs l : List β} {lo hi : Int} (hx : aB T x = .loc id lo.toNat (hi.toNat - lo.toNat)) (hc : dc xs lo hi = some l) : ay (.len x) (aB T) σ n = some (.d (.int .i64 l.length), σ, n) := by
  have : hi.toNat - lo.toNat = l.length := by
    unfold dc at hc
    split at hc
    · cases hc; simp; omega
    · cases hc
  simp [ay, hx, this]
theorem bI {xs : List α} (hx : aB T x = .d (.vec k (xs.map e))) : ay (.len x) (aB T) σ n = some (.d (.int .i64 xs.length), σ, n) := by simp [ay, hx]
theorem lb {d z : D} {j : Nat} (hx : aB T x = .d (.cptr kb d j)) (hd : dy kb d j k = some z) : ay (.ldI k x) (aB T) σ n = some (.d z, σ, n) := by simp [ay, hx, hd]
theorem lf (ds : List D) : fQ (ds.map V.d) = .d (.agg ds) := by
  have : bK ((ds.map V.d).map V.toD) = some ds := by
    induction ds with
    | nil => rfl
    | cons d ds ih => simp only [List.map_cons, V.toD, il]; rw [ih]; rfl
  simp only [fQ, this]
def gk : Nat → List V → List V → List V
  | 0, [], cs => cs
  | 0, v :: vs, [] => v :: vs
  | 0, v :: vs, _ :: cs => v :: gk 0 vs cs
  | _ + 1, vs, [] => vs
  | off + 1, vs, c :: cs => c :: gk off vs cs
theorem lg : ∀ (off : Nat) (vs cs : List V), off + vs.length ≤ cs.length → gk off vs cs = cs.take off ++ vs ++ cs.drop (off + vs.length)
  | 0, [], cs, _ => by simp [gk]
  | 0, v :: vs, [], h => by simp at h
  | 0, v :: vs, c :: cs, h => by
    have := lg 0 vs cs (by simp at h ⊢; omega)
    simp [gk, this]
  | off + 1, vs, [], h => by simp at h
  | off + 1, vs, c :: cs, h => by
    have := lg off vs cs (by simp at h ⊢; omega)
    rw [show off + 1 + vs.length = (off + vs.length) + 1 by omega]
    simp [gk, this]
def jE (cells : List V) : List (Nat × Nat × V) → Option (List V)
  | [] => some cells
  | (off, size, v) :: r =>
    if v.cells.all V.one = true ∧ v.cells.length = size ∧ off + size ≤ cells.length then jE (gk off v.cells cells) r else none
theorem n9 : ∀ (parts : List (Nat × Nat × V)) (cells : List V), jE cells parts = fg cells parts
  | [], _ => rfl
  | (off, size, v) :: r, cells => by
    simp only [jE, fg]
    split
    · rename_i h
      obtain ⟨_, h2, h3⟩ := h
      subst h2
      rw [lg off v.cells cells h3, n9 r]
    · rfl
theorem dj {zero : List D} {parts : List (Nat × Nat × AX)} {ds : List D} (h : jE (zero.map V.d) (parts.map fun p => (p.1, p.2.1, aB T p.2.2)) = some (ds.map V.d)) : ay (.build zero parts) (aB T) σ n = some (.d (.agg ds), σ, n) := by
  rw [n9] at h
  simp only [ay, h, Option.map_some, lf]
theorem bS {m id j : Nat} {cs : List V} {ds : List D} (hx : aB T x = .ptr id 0 j) (hid : σ id = some (.var cs)) (hl : j + m ≤ cs.length) (hs : (cs.drop j).take m = ds.map V.d) : ay (.load (some m) x) (aB T) σ n = some (.d (.agg ds), σ, n) := by
  simp only [ay, b8, hx, hid, dG, Nat.zero_add, if_pos hl, hs, lf, Option.map_some]
theorem gl {s : S} {t m id j : Nat} {cs : List V} {ds : List D} {l : List eg} {vs : List V} (hx : s.T t = .ptr id 0 j) (hid : s.σ id = some (.var cs)) (hl : j + m ≤ cs.length) (hs : (cs.drop j).take m = ds.map V.d) (hr : dh s l = some vs) : dh s (.cell t (some m) :: l) = some (.d (.agg ds) :: vs) := by
  simp only [dh, iF, b8, hx, hid, dG, Nat.zero_add, if_pos hl, hs, lf, hr]
theorem bn {s : S} {t : Nat} {v : V} {l : List eg} {vs : List V} (hx : s.T t = v) (hr : dh s l = some vs) : dh s (.t t :: l) = some (v :: vs) := by
  simp only [dh, iF, hx, hr]
theorem lh {m : Nat} {xs : List α} {i : Int} {v : α} {kk : IntKind} {d : D} {j : Nat} (h : bt xs i = some v) (hm : xs.length = m) (hx : aB T x = .d (.cptr kb d j)) (hy : aB T y = .d (.int kk i)) : ay (.iaddrA m k x y) (aB T) σ n = some (.d (.cptr kb d (j + i.toNat * am k)), σ, n) := by
  obtain ⟨h0, h1⟩ := jA h
  have : i < (m : Int) := by omega
  simp [ay, hx, hy, h0, this]
theorem rW {m : Nat} {xs : List α} {i : Int} {v : α} {kk : IntKind} {id q j : Nat} (h : bt xs i = some v) (hm : xs.length = m) (hx : aB T x = .ptr id q j) (hy : aB T y = .d (.int kk i)) : ay (.iaddrA m k x y) (aB T) σ n = some (.ptr id q (j + i.toNat * am k), σ, n) := by
  obtain ⟨h0, h1⟩ := jA h
  have : i < (m : Int) := by omega
  simp [ay, hx, hy, h0, this]
theorem rX {xs xs' : List α} {i : Int} {v : α} {id j : Nat} {pre post : List V} (h : cI xs i v = some xs') (hx : aB T x = .ptr id 0 (j + i.toNat * 1)) (hy : aB T y = .d (e v)) (hid : σ id = some (.var (pre ++ (xs.map (fun x => V.d (e x)) ++ post)))) (hj : pre.length = j)
    (hc : (e v).cells = [e v]) (h1 : (e v).one = true) : ay (.store none x y) (aB T) σ n = some (V.undef, al σ id (some (.var (pre ++ (xs'.map (fun x => V.d (e x)) ++ post)))), n) := by
  obtain ⟨h0, hlt, rfl⟩ := iI h
  subst hj
  have e1 : (V.d (e v)).cells = [V.d (e v)] := by simp [V.cells, hc]
  have e2 : (V.d (e v)).one = true := h1
  have hle : 0 + (pre.length + i.toNat) + 1 ≤ (pre ++ (xs.map (fun x => V.d (e x)) ++ post)).length := by simp; omega
  have key : (pre ++ (xs.map (fun x => V.d (e x)) ++ post)).take (pre.length + i.toNat) ++ [V.d (e v)] ++ (pre ++ (xs.map (fun x => V.d (e x)) ++ post)).drop (pre.length + i.toNat + 1) = pre ++ ((xs.set i.toNat v).map (fun x => V.d (e x)) ++ post) := by
    rw [← List.set_eq_take_append_cons_drop_aux (by simp; omega)]
    rw [List.set_append_right _ _ (by omega), Nat.add_sub_cancel_left, List.set_append_left _ _ (by simpa using hlt), List.map_set]
  simp only [ay, dO, hx, hy, hid, e1, Nat.mul_one]
  rw [if_pos ⟨rfl, by simp [e2], by simpa [am] using hle⟩]
  simp only [am, Option.getD_none, Nat.zero_add, Option.map_some]
  rw [key]
where
  List.set_eq_take_append_cons_drop_aux {β : Type} {l : List β} {m : Nat} {v : β} (h : m < l.length) : l.set m v = l.take m ++ [v] ++ l.drop (m + 1) := by
    rw [List.set_eq_take_append_cons_drop, if_pos h]; simp
theorem A8.put_l {a a' : A8 α} {i : Int} {v : α} (h : a.put i v = some a') : cI a.l i v = some a'.l := by
  unfold A8.put at h
  cases hg : cI a.l i v with
  | none => rw [hg] at h; cases h
  | some xs =>
    rw [hg] at h
    obtain ⟨_, _, rfl⟩ := iI hg
    have hl : (a.l.set i.toNat v).length = 8 := by simp [A8.l]
    generalize a.l.set i.toNat v = q at h hl
    match q, hl with
    | [_, _, _, _, _, _, _, _], _ => cases h; rfl
theorem A2.put_l {a a' : A2 α} {i : Int} {v : α} (h : a.put i v = some a') : cI a.l i v = some a'.l := by
  unfold A2.put at h
  cases hg : cI a.l i v with
  | none => rw [hg] at h; cases h
  | some xs =>
    rw [hg] at h
    obtain ⟨_, _, rfl⟩ := iI hg
    have hl : (a.l.set i.toNat v).length = 2 := by simp [A2.l]
    generalize a.l.set i.toNat v = q at h hl
    match q, hl with
    | [_, _], _ => cases h; rfl
end
def RV (σ : ax) : List V → List D → Prop
  | [], [] => True
  | v :: l, d :: r => (∃ d0, dT σ v = some d0 ∧ cy d0 d) ∧ RV σ l r
  | _, _ => False
theorem RV.all {σ : ax} : ∀ {vs : List V} {ds : List D}, RV σ vs ds → ∃ ds0, bK (vs.map (dT σ)) = some ds0 ∧ ds0.length = ds.length ∧ ∀ (i : Nat) a b, ds0[i]? = some a → ds[i]? = some b → cy a b
  | [], [], _ => ⟨[], rfl, rfl, fun i a b h => by simp at h⟩
  | v :: vs, d :: ds, ⟨⟨d0, h1, h2⟩, h3⟩ => by
    obtain ⟨ds0, g1, g2, g3⟩ := RV.all h3
    refine ⟨d0 :: ds0, by simp [h1, g1], by simp [g2], fun i a b ha hb => ?_⟩
    cases i with
    | zero => simp at ha hb; subst ha; subst hb; exact h2
    | succ i => exact g3 i a b (by simpa using ha) (by simpa using hb)
  | [], _ :: _, h => h.elim
  | _ :: _, [], h => h.elim
theorem RV.d {σ : ax} {vs : List V} {d : D} {ds : List D} (h : RV σ vs ds) : RV σ (.d d :: vs) (d :: ds) := ⟨⟨d, rfl, .refl _⟩, h⟩
theorem RV.sub {σ : ax} {vs : List V} {d0 d : D} {ds : List D} (hs : cy d0 d) (h : RV σ vs ds) : RV σ (.d d0 :: vs) (d :: ds) := ⟨⟨d0, rfl, hs⟩, h⟩
theorem RV.nl {σ : ax} {vs : List V} {k : Option Nat} {ds : List D} (h : RV σ vs ds) : RV σ (.d .nils :: vs) (.vec k [] :: ds) := ⟨⟨.nils, rfl, .nils k⟩, h⟩
theorem oa {σ : ax} {id len : Nat} {m : Bool} {k : Option Nat} {els : List D} (hid : σ id = some (.lst m k els)) (hl : len = els.length) : eo σ (.loc id 0 len) = some (.vec k els) := by
  subst hl; simp [eo, hid]
theorem RV.loc {σ : ax} {vs : List V} {id len : Nat} {m : Bool} {k : Option Nat} {α : Type} {xs : List α} {e : α → D} {ds : List D} (hid : σ id = some (.lst m k (xs.map e))) (hl : len = xs.length) (h : RV σ vs ds) : RV σ (.loc id 0 len :: vs) (.vec k (xs.map e) :: ds) :=
  ⟨⟨_, oa hid (by simpa using hl), .refl _⟩, h⟩
def dK (σ : ax) : List V → List D → Prop
  | [], [] => True
  | v :: l, d :: r => (∃ d0, eo σ v = some d0 ∧ cy d0 d) ∧ dK σ l r
  | _, _ => False
theorem dK.all {σ : ax} : ∀ {vs : List V} {ds : List D}, dK σ vs ds → ∃ ds0, bK (vs.map (eo σ)) = some ds0 ∧ ds0.length = ds.length ∧ ∀ (i : Nat) a b, ds0[i]? = some a → ds[i]? = some b → cy a b
  | [], [], _ => ⟨[], rfl, rfl, fun i a b h => by simp at h⟩
  | v :: vs, d :: ds, ⟨⟨d0, h1, h2⟩, h3⟩ => by
    obtain ⟨ds0, g1, g2, g3⟩ := dK.all h3
    refine ⟨d0 :: ds0, by simp [h1, g1], by simp [g2], fun i a b ha hb => ?_⟩
    cases i with
    | zero => simp at ha hb; subst ha; subst hb; exact h2
    | succ i => exact g3 i a b (by simpa using ha) (by simpa using hb)
  | [], _ :: _, h => h.elim
  | _ :: _, [], h => h.elim
theorem dK.d {σ : ax} {vs : List V} {d : D} {ds : List D} (h : dK σ vs ds) : dK σ (.d d :: vs) (d :: ds) := ⟨⟨d, rfl, .refl _⟩, h⟩
theorem dK.nl {σ : ax} {vs : List V} {k : Option Nat} {ds : List D} (h : dK σ vs ds) : dK σ (.d .nils :: vs) (.vec k [] :: ds) := ⟨⟨.nils, rfl, .nils k⟩, h⟩
theorem dK.loc {σ : ax} {vs : List V} {id len : Nat} {m : Bool} {k : Option Nat} {α : Type} {xs : List α} {e : α → D} {ds : List D} (hid : σ id = some (.lst m k (xs.map e))) (hl : len = xs.length) (h : dK σ vs ds) : dK σ (.loc id 0 len :: vs) (.vec k (xs.map e) :: ds) :=
  ⟨⟨_, oa hid (by simpa using hl), .refl _⟩, h⟩
theorem RV.agg {σ : ax} {vs cs : List V} {es ds : List D} (hc : dK σ cs es) (h : RV σ vs ds) : RV σ (.agg cs :: vs) (.agg es :: ds) := by
  obtain ⟨es0, g1, g2, g3⟩ := hc.all
  exact ⟨⟨.agg es0, by simp [dT, g1], .agg _ _ g2 g3⟩, h⟩
def iK : List D → List D → Prop
  | [], [] => True
  | a :: l, b :: r => cy a b ∧ iK l r
  | _, _ => False
theorem iK.all : ∀ {l r : List D}, iK l r → l.length = r.length ∧ ∀ (i : Nat) a b, l[i]? = some a → r[i]? = some b → cy a b
  | [], [], _ => ⟨rfl, fun i a b h => by simp at h⟩
  | x :: l, y :: r, h => by
    obtain ⟨h1, h2⟩ := iK.all h.2
    refine ⟨by simp [h1], fun i u v hu hv => ?_⟩
    cases i with
    | zero => simp at hu hv; subst hu; subst hv; exact h.1
    | succ i => exact h2 i u v (by simpa using hu) (by simpa using hv)
  | [], _ :: _, h => h.elim
  | _ :: _, [], h => h.elim
theorem cy.aggs {l r : List D} (h : iK l r) : cy (.agg l) (.agg r) := .agg l r h.all.1 h.all.2
theorem bh {res : List eg} {e : Exit} {s' : S} {v : V} {d : D} (he : e = .normal ∨ e = .ret) (h1 : dh s' res = some [v]) (h2 : RV s'.σ [v] [d]) : FQ res d e s' := by
  obtain ⟨⟨d0, g1, g2⟩, _⟩ := h2
  refine ⟨he, [v], h1, d0, ?_, g2⟩
  cases v with
  | tup vs => simp [dT, eo] at g1
  | _ => exact g1
theorem iL {res : List eg} {e : Exit} {s' : S} {v v' : V} {vs : List V} {ds : List D} (he : e = .normal ∨ e = .ret) (h1 : dh s' res = some (v :: v' :: vs)) (h2 : RV s'.σ (v :: v' :: vs) ds) : FQ res (.tup ds) e s' := by
  obtain ⟨ds0, g1, g2, g3⟩ := h2.all
  refine ⟨he, _, h1, .tup ds0, ?_, .tup _ _ g2 g3⟩
  show gM s'.σ (im (v :: v' :: vs)) = _
  unfold im
  split
  · rename_i xs hx
    have : bK ((v :: v' :: vs).map (dT s'.σ)) = some xs := by
      have key : ∀ (l : List V) (xs : List D), bK (l.map V.toD) = some xs → bK (l.map (dT s'.σ)) = some xs := by
        intro l
        induction l with
        | nil => intro xs h; exact h
        | cons u l ih =>
          intro xs h
          cases u <;> simp [V.toD] at h
          rename_i q
          obtain ⟨ys, h1, rfl⟩ := h
          simp [dT, eo, ih ys h1]
      exact key _ _ hx
    rw [this] at g1
    cases g1
    rfl
  · simp only [gM, g1, Option.map_some]
theorem rY {vs : List V} {id len : Nat} {k : Option Nat} {α : Type} {xs : List α} {e : α → D} {ds : List D} (hid : σ id = some (.lst false k (xs.map e))) (hl : len = xs.length) (h : aL σ vs ds) : aL σ (.loc id 0 len :: vs) (.vec k (xs.map e) :: ds) := aL.lc hid (by simpa using hl) h
theorem dk {β γ : Type} {f : β → Option γ} {a : β} {x : γ} {l : List β} {r : List γ} (h : f a = some x) (h' : bK (l.map f) = some r) : bK ((a :: l).map f) = some (x :: r) := by
  simp [h, h']
theorem jF {β γ : Type} {f : β → Option γ} : bK (([] : List β).map f) = some [] := rfl
theorem jG {id len : Nat} {k : Option Nat} {α : Type} {xs : List α} {e : α → D} (hid : σ id = some (.lst false k (xs.map e))) (hl : len = xs.length) : ct σ (.loc id 0 len) = some (.vec k (xs.map e)) := by
  subst hl
  simp only [ct, hid]
  rw [if_pos (by simp)]
  congr 2
  rw [List.drop_zero]
  exact List.take_of_length_le (by simp)
theorem dW {x : D} : ct σ (.d x) = some x := rfl
theorem lj {cs : List V} {ds : List D} (h : bK (cs.map (ct σ)) = some ds) : co σ (.agg cs) = some (.agg ds) := by
  simp [co, h]
theorem rZ {id len : Nat} {k : Option Nat} {α : Type} {xs : List α} {e : α → D} (hid : σ id = some (.lst false k (xs.map e))) (hl : len = xs.length) : co σ (.loc id 0 len) = some (.vec k (xs.map e)) := jG hid hl
theorem r6 {parts : List AX} {m : Bool} {k : Option Nat} {ds : List D} (h : bK (parts.map fun x => co σ (aB T x)) = some ds) (hs : ds.all (fun d => d.shape k && d.cells.all D.one) = true) : ay (.bsliceV k parts m) (aB T) σ n = some (.loc n 0 ds.length, al σ n (some (.lst m k ds)), n + 1) := by
  simp only [ay, h, hs, if_true]
def iM (σ : ax) : List V → List V → Prop
  | [], [] => True
  | x :: l, y :: r => (x = y ∨ ∃ d, co σ x = some d ∧ y = .d d) ∧ iM σ l r
  | _, _ => False
theorem iM.all {σ : ax} : ∀ {l r : List V}, iM σ l r → l.length = r.length ∧ ∀ (i : Nat) y, r[i]? = some y → ∃ x, l[i]? = some x ∧ (x = y ∨ ∃ d, co σ x = some d ∧ y = .d d)
  | [], [], _ => ⟨rfl, fun i y h => by simp at h⟩
  | x :: l, y :: r, h => by
    obtain ⟨h1, h2⟩ := iM.all h.2
    refine ⟨by simp [h1], fun i z hz => ?_⟩
    cases i with
    | zero => simp at hz; subst hz; exact ⟨x, rfl, h.1⟩
    | succ i => exact h2 i z (by simpa using hz)
  | [], _ :: _, h => h.elim
  | _ :: _, [], h => h.elim
theorem b4.sees {P : Program} {f : Nat} {vals vals' : List V} {σ σ' : ax} {n n' : Nat} {v : V} (h : dR P f vals' σ n v σ' n') (hv : iM σ vals vals') : dR P f vals σ n v σ' n' := by
  obtain ⟨hl, hv⟩ := hv.all
  refine ⟨h.1, fun A μ w vs hs hfr hlen hrel => h.2 A μ w vs hs hfr (by omega) fun i y u hy hu => ?_⟩
  obtain ⟨x, hx, rfl | ⟨d, hd, rfl⟩⟩ := hv i y hy
  · exact hrel i x u hx hu
  · exact .d _ _ (kG hs hd (hrel i x u hx hu))
theorem sd {ks : List Ck} {a b : List D} {p : Bool} (h1 : a.length = ks.length) (h2 : b.length = ks.length) (h : bV ks a b = some p) : fS ks (.d (.agg a)) (.d (.agg b)) = some p := by
  simp [fS, h1, h2, h]
theorem se {a b : ByteArray} : a.toList = b.toList ↔ a = b := by
  rw [ByteArray.toList_eq, ByteArray.toList_eq]
  constructor
  · intro h
    have : a.data = b.data := Array.toList_inj.1 h
    cases a; cases b; simp at this; subst this; rfl
  · rintro rfl; rfl
theorem dV.c {v : V} {d : D} {l : List V} {r : List D} (h : cO σ v d) (h' : dV σ l r) : dV σ (v :: l) (d :: r) := ⟨h, h'⟩
theorem dV.nil0 : dV σ [] [] := trivial
theorem bR.c {ρ : Nat → Nat} {n0 : Nat} {v u : V} {l r : List V} (h : VN ρ n0 v u) (h' : bR ρ n0 l r) : bR ρ n0 (v :: l) (u :: r) := ⟨h, h'⟩
theorem bR.nil0 {ρ : Nat → Nat} {n0 : Nat} : bR ρ n0 [] [] := trivial
theorem SN.c {ρ : Nat → Nat} {n0 i : Nat} {b b' : bd} {l : List (Nat × bd)} (hi : i < n0) (hb : σ (ρ i) = some b') (h : BN ρ n0 b' b) (h' : SN ρ n0 σ l) : SN ρ n0 σ ((i, b) :: l) := ⟨⟨hi, b', hb, h⟩, h'⟩
theorem SN.nil0 {ρ : Nat → Nat} {n0 : Nat} : SN ρ n0 σ [] := trivial
theorem gm {m i : Nat} {b : bd} {l : List (Nat × bd)} (h : i < m) (h' : ∀ q ∈ l, q.1 < m) : ∀ q ∈ (i, b) :: l, q.1 < m := by
  intro q hq
  rcases List.mem_cons.1 hq with rfl | hq
  · exact h
  · exact h' q hq
theorem gn {m : Nat} : ∀ q ∈ ([] : List (Nat × bd)), q.1 < m := by intro q hq; cases hq
end
end Go.AM
