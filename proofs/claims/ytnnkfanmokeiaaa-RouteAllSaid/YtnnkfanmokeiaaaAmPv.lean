import Derived.Test.YtnnkfanmokeiaaaAmN5
import Derived.Laws.Strings
import Derived.Test.YtnnkfanmokeiaaaAmN4
/-  Several texts in one. -/
section
set_option linter.unusedVariables false
set_option linter.unusedSectionVars false
set_option linter.unusedSimpArgs false
namespace Go.AM
open Go Go.RowKit
variable [Glob]
section
variable {P : Program} {N na : Nat} {A : Nat → Nat → Prop} {μ μ' : Nat → Option bI} {T T' : Nat → V} {σ σ' : aL} {w w' : World} {a : Act} {n n' : Nat} {l : List bL} {dst : Option Nat} {op : bF} {K : S → Prop}
theorem cF {α β : Type} {o : Option α} {g : α → β} {x : β} (h : o.map g = some x) : ∃ y, o = some y ∧ g y = x := by
  cases o with
  | none => cases h
  | some y => exact ⟨y, rfl, bM h⟩
theorem BN.vars {ρ : Nat → Nat} {n0 : Nat} {vs us : List V} (h : dC ρ n0 vs us) : BN ρ n0 (.var vs) (.var us) := .var vs us h.all.1 h.all.2
theorem VN.aggs {ρ : Nat → Nat} {n0 : Nat} {vs us : List V} (h : dC ρ n0 vs us) : VN ρ n0 (.agg vs) (.agg us) := .agg vs us h.all.1 h.all.2
theorem jo {s : S} (t : Nat) (m : Bool) (k : Option Nat) (h : s.T t = .d .nils) : bW na s ⟨aw s.T t (.loc s.n 0 0), aw s.σ s.n (some (.lst m k [])), s.n + 1⟩ := by
  refine bW.nil _ m k fun i => ?_
  by_cases e : i = t
  · subst e; exact .inr ⟨bz _ _ _, h⟩
  · exact .inl (bg _ _ e)
def mm (T : Nat → V) (ts : List Nat) (v : V) : Nat → V := fun i => if ts.contains i then v else T i
theorem zK {s : S} (k : Nat) {v : V} {d : D} (hT : s.T k = v) (hv : dR s.σ v = some d) : bW na s ⟨mm s.T [k] (.d d), s.σ, s.n⟩ := by
  intro N A μ a w ⟨hs, hfr⟩
  refine ⟨μ, ⟨⟨hs.size, hs.defers, fun i => ?_, hs.store⟩, hfr⟩, (bk.refl _ _ _).ng⟩
  unfold mm
  by_cases c : i = k
  · subst c
    have : ([i] : List Nat).contains i = true := by simp
    simp only [this, if_true]
    have h0 := hs.tmps i
    rw [hT] at h0
    exact .d _ _ (kU hs.store hv h0)
  · have : ([k] : List Nat).contains i = false := by simpa using c
    simp only [this, Bool.false_eq_true, if_false]
    exact hs.tmps i
theorem Fs {s : S} (t : Nat) {id : Nat} {k : Option Nat} {α : Type} {xs l : List α} {e : α → D} {lo hi : Int} (hT : s.T t = .loc id lo.toNat (hi.toNat - lo.toNat)) (hid : s.σ id = some (.lst false k (xs.map e))) (hc : eF xs lo hi = some l) : bW na s ⟨mm s.T [t] (.d (.vec k (l.map e))), s.σ, s.n⟩ := by
  refine zK t hT ?_
  unfold eF at hc
  split at hc
  · rename_i h
    cases hc
    simp only [dR, hid, List.length_map]
    rw [if_pos (by omega), List.map_take, List.map_drop]
  · cases hc
section
variable {α : Type} {e : α → D} {x y : AX} {k kb : Option Nat}
theorem ub {β : Type} {id : Nat} {xs l : List β} {lo hi : Int} (hx : aF T x = .loc id lo.toNat (hi.toNat - lo.toNat)) (hc : eF xs lo hi = some l) : aI (.len x) (aF T) σ n = some (.d (.int .i64 l.length), σ, n) := by
  have : hi.toNat - lo.toNat = l.length := by
    unfold eF at hc
    split at hc
    · cases hc; simp; omega
    · cases hc
  simp [aI, hx, this]
theorem bx {xs : List α} (hx : aF T x = .d (.vec k (xs.map e))) : aI (.len x) (aF T) σ n = some (.d (.int .i64 xs.length), σ, n) := by simp [aI, hx]
theorem zL {d z : D} {j : Nat} (hx : aF T x = .d (.cptr kb d j)) (hd : fH kb d j k = some z) : aI (.load k x) (aF T) σ n = some (.d z, σ, n) := by simp [aI, cW, hx, hd]
theorem mn {d z : D} {j : Nat} (hx : aF T x = .d (.cptr kb d j)) (hd : fH kb d j k = some z) : aI (.ldI k x) (aF T) σ n = some (.d z, σ, n) := by simp [aI, hx, hd]
theorem qj (ds : List D) : jR (ds.map V.d) = .d (.agg ds) := by
  have : cg ((ds.map V.d).map V.toD) = some ds := by
    induction ds with
    | nil => rfl
    | cons d ds ih => simp only [List.map_cons, V.toD, kH]; rw [ih]; rfl
  simp only [jR, this]
def kf : Nat → List V → List V → List V
  | 0, [], cs => cs
  | 0, v :: vs, [] => v :: vs
  | 0, v :: vs, _ :: cs => v :: kf 0 vs cs
  | _ + 1, vs, [] => vs
  | off + 1, vs, c :: cs => c :: kf off vs cs
theorem qk : ∀ (off : Nat) (vs cs : List V), off + vs.length ≤ cs.length → kf off vs cs = cs.take off ++ vs ++ cs.drop (off + vs.length)
  | 0, [], cs, _ => by simp [kf]
  | 0, v :: vs, [], h => by simp at h
  | 0, v :: vs, c :: cs, h => by
    have := qk 0 vs cs (by simp at h ⊢; omega)
    simp [kf, this]
  | off + 1, vs, [], h => by simp at h
  | off + 1, vs, c :: cs, h => by
    have := qk off vs cs (by simp at h ⊢; omega)
    rw [show off + 1 + vs.length = (off + vs.length) + 1 by omega]
    simp [kf, this]
def nX (cells : List V) : List (Nat × Nat × V) → Option (List V)
  | [] => some cells
  | (off, size, v) :: r =>
    if v.cells.all V.one = true ∧ v.cells.length = size ∧ off + size ≤ cells.length then nX (kf off v.cells cells) r else none
theorem uc : ∀ (parts : List (Nat × Nat × V)) (cells : List V), nX cells parts = iK cells parts
  | [], _ => rfl
  | (off, size, v) :: r, cells => by
    simp only [nX, iK]
    split
    · rename_i h
      obtain ⟨_, h2, h3⟩ := h
      subst h2
      rw [qk off v.cells cells h3, uc r]
    · rfl
theorem eI {zero : List D} {parts : List (Nat × Nat × AX)} {ds : List D} (h : nX (zero.map V.d) (parts.map fun p => (p.1, p.2.1, aF T p.2.2)) = some (ds.map V.d)) : aI (.build zero parts) (aF T) σ n = some (.d (.agg ds), σ, n) := by
  rw [uc] at h
  simp only [aI, h, Option.map_some, qj]
theorem dS {m id j : Nat} {cs : List V} {ds : List D} (hx : aF T x = .ptr id 0 j) (hid : σ id = some (.var cs)) (hl : j + m ≤ cs.length) (hs : (cs.drop j).take m = ds.map V.d) : aI (.load (some m) x) (aF T) σ n = some (.d (.agg ds), σ, n) := by
  simp only [aI, cW, hx, hid, fP, Nat.zero_add, if_pos hl, hs, qj, Option.map_some]
theorem fZ {s : S} {t m id j : Nat} {cs : List V} {ds : List D} {l : List gO} {vs : List V} (hx : s.T t = .ptr id 0 j) (hid : s.σ id = some (.var cs)) (hl : j + m ≤ cs.length) (hs : (cs.drop j).take m = ds.map V.d) (hr : fB s l = some vs) : fB s (.cell t (some m) :: l) = some (.d (.agg ds) :: vs) := by
  simp only [fB, mb, cW, hx, hid, fP, Nat.zero_add, if_pos hl, hs, qj, hr]
theorem aP {s : S} {t : Nat} {v : V} {l : List gO} {vs : List V} (hx : s.T t = v) (hr : fB s l = some vs) : fB s (.t t :: l) = some (v :: vs) := by
  simp only [fB, mb, hx, hr]
theorem k5 {m : Nat} {xs : List α} {i : Int} {v : α} {kk : IntKind} {d : D} {j : Nat} (h : be xs i = some v) (hm : xs.length = m) (hx : aF T x = .d (.cptr kb d j)) (hy : aF T y = .d (.int kk i)) : aI (.iaddrA m k x y) (aF T) σ n = some (.d (.cptr kb d (j + i.toNat * am k)), σ, n) := by
  obtain ⟨h0, h1⟩ := nV h
  have : i < (m : Int) := by omega
  simp [aI, hx, hy, h0, this]
theorem zM {m : Nat} {xs : List α} {i : Int} {v : α} {kk : IntKind} {id q j : Nat} (h : be xs i = some v) (hm : xs.length = m) (hx : aF T x = .ptr id q j) (hy : aF T y = .d (.int kk i)) : aI (.iaddrA m k x y) (aF T) σ n = some (.ptr id q (j + i.toNat * am k), σ, n) := by
  obtain ⟨h0, h1⟩ := nV h
  have : i < (m : Int) := by omega
  simp [aI, hx, hy, h0, this]
theorem zN {xs xs' : List α} {i : Int} {v : α} {id j : Nat} {pre post : List V} (h : di xs i v = some xs') (hx : aF T x = .ptr id 0 (j + i.toNat * 1)) (hy : aF T y = .d (e v)) (hid : σ id = some (.var (pre ++ (xs.map (fun x => V.d (e x)) ++ post)))) (hj : pre.length = j)
    (hc : (e v).cells = [e v]) (h1 : (e v).one = true) : aI (.store none x y) (aF T) σ n = some (V.undef, aw σ id (some (.var (pre ++ (xs'.map (fun x => V.d (e x)) ++ post)))), n) := by
  obtain ⟨h0, hlt, rfl⟩ := ml h
  subst hj
  have e1 : (V.d (e v)).cells = [V.d (e v)] := by simp [V.cells, hc]
  have e2 : (V.d (e v)).one = true := h1
  have hle : 0 + (pre.length + i.toNat) + 1 ≤ (pre ++ (xs.map (fun x => V.d (e x)) ++ post)).length := by simp; omega
  have key : (pre ++ (xs.map (fun x => V.d (e x)) ++ post)).take (pre.length + i.toNat) ++ [V.d (e v)] ++ (pre ++ (xs.map (fun x => V.d (e x)) ++ post)).drop (pre.length + i.toNat + 1) = pre ++ ((xs.set i.toNat v).map (fun x => V.d (e x)) ++ post) := by
    rw [← List.set_eq_take_append_cons_drop_aux (by simp; omega)]
    rw [List.set_append_right _ _ (by omega), Nat.add_sub_cancel_left, List.set_append_left _ _ (by simpa using hlt), List.map_set]
  simp only [aI, fg, hx, hy, hid, e1, Nat.mul_one]
  rw [if_pos ⟨rfl, by simp [e2], by simpa [am] using hle⟩]
  simp only [am, Option.getD_none, Nat.zero_add, Option.map_some]
  rw [key]
where
  List.set_eq_take_append_cons_drop_aux {β : Type} {l : List β} {m : Nat} {v : β} (h : m < l.length) : l.set m v = l.take m ++ [v] ++ l.drop (m + 1) := by
    rw [List.set_eq_take_append_cons_drop, if_pos h]; simp
theorem A8.put_l {a a' : A8 α} {i : Int} {v : α} (h : a.put i v = some a') : di a.l i v = some a'.l := by
  unfold A8.put at h
  cases hg : di a.l i v with
  | none => rw [hg] at h; cases h
  | some xs =>
    rw [hg] at h
    obtain ⟨_, _, rfl⟩ := ml hg
    have hl : (a.l.set i.toNat v).length = 8 := by simp [A8.l]
    generalize a.l.set i.toNat v = q at h hl
    match q, hl with
    | [_, _, _, _, _, _, _, _], _ => cases h; rfl
theorem A2.put_l {a a' : A2 α} {i : Int} {v : α} (h : a.put i v = some a') : di a.l i v = some a'.l := by
  unfold A2.put at h
  cases hg : di a.l i v with
  | none => rw [hg] at h; cases h
  | some xs =>
    rw [hg] at h
    obtain ⟨_, _, rfl⟩ := ml hg
    have hl : (a.l.set i.toNat v).length = 2 := by simp [A2.l]
    generalize a.l.set i.toNat v = q at h hl
    match q, hl with
    | [_, _], _ => cases h; rfl
end
def RV (σ : aL) : List V → List D → Prop
  | [], [] => True
  | v :: l, d :: r => (∃ d0, fJ σ v = some d0 ∧ eg d0 d) ∧ RV σ l r
  | _, _ => False
theorem RV.all {σ : aL} : ∀ {vs : List V} {ds : List D}, RV σ vs ds → ∃ ds0, cg (vs.map (fJ σ)) = some ds0 ∧ ds0.length = ds.length ∧ ∀ (i : Nat) a b, ds0[i]? = some a → ds[i]? = some b → eg a b
  | [], [], _ => ⟨[], rfl, rfl, fun i a b h => by simp at h⟩
  | v :: vs, d :: ds, ⟨⟨d0, h1, h2⟩, h3⟩ => by
    obtain ⟨ds0, g1, g2, g3⟩ := RV.all h3
    refine ⟨d0 :: ds0, by simp [h1, g1], by simp [g2], fun i a b ha hb => ?_⟩
    cases i with
    | zero => simp at ha hb; subst ha; subst hb; exact h2
    | succ i => exact g3 i a b (by simpa using ha) (by simpa using hb)
  | [], _ :: _, h => h.elim
  | _ :: _, [], h => h.elim
theorem RV.d {σ : aL} {vs : List V} {d : D} {ds : List D} (h : RV σ vs ds) : RV σ (.d d :: vs) (d :: ds) := ⟨⟨d, rfl, .refl _⟩, h⟩
theorem RV.sub {σ : aL} {vs : List V} {d0 d : D} {ds : List D} (hs : eg d0 d) (h : RV σ vs ds) : RV σ (.d d0 :: vs) (d :: ds) := ⟨⟨d0, rfl, hs⟩, h⟩
theorem RV.nl {σ : aL} {vs : List V} {k : Option Nat} {ds : List D} (h : RV σ vs ds) : RV σ (.d .nils :: vs) (.vec k [] :: ds) := ⟨⟨.nils, rfl, .nils k⟩, h⟩
theorem ql {σ : aL} {id len : Nat} {m : Bool} {k : Option Nat} {els : List D} (hid : σ id = some (.lst m k els)) (hl : len = els.length) : eZ σ (.loc id 0 len) = some (.vec k els) := by
  subst hl; simp [eZ, hid]
theorem zO {σ : aL} {id len : Nat} {m : Bool} {k : Option Nat} {els : List D} (hid : σ id = some (.lst m k els)) (hl : len = els.length) : fJ σ (.loc id 0 len) = some (.vec k els) := by
  unfold fJ; simp only [hid]; exact ql hid hl
theorem RV.loc {σ : aL} {vs : List V} {id len : Nat} {m : Bool} {k : Option Nat} {α : Type} {xs : List α} {e : α → D} {ds : List D} (hid : σ id = some (.lst m k (xs.map e))) (hl : len = xs.length) (h : RV σ vs ds) : RV σ (.loc id 0 len :: vs) (.vec k (xs.map e) :: ds) :=
  ⟨⟨_, zO hid (by simpa using hl), .refl _⟩, h⟩
def gh (σ : aL) : List V → List D → Prop
  | [], [] => True
  | v :: l, d :: r => (∃ d0, eZ σ v = some d0 ∧ eg d0 d) ∧ gh σ l r
  | _, _ => False
theorem gh.all {σ : aL} : ∀ {vs : List V} {ds : List D}, gh σ vs ds → ∃ ds0, cg (vs.map (eZ σ)) = some ds0 ∧ ds0.length = ds.length ∧ ∀ (i : Nat) a b, ds0[i]? = some a → ds[i]? = some b → eg a b
  | [], [], _ => ⟨[], rfl, rfl, fun i a b h => by simp at h⟩
  | v :: vs, d :: ds, ⟨⟨d0, h1, h2⟩, h3⟩ => by
    obtain ⟨ds0, g1, g2, g3⟩ := gh.all h3
    refine ⟨d0 :: ds0, by simp [h1, g1], by simp [g2], fun i a b ha hb => ?_⟩
    cases i with
    | zero => simp at ha hb; subst ha; subst hb; exact h2
    | succ i => exact g3 i a b (by simpa using ha) (by simpa using hb)
  | [], _ :: _, h => h.elim
  | _ :: _, [], h => h.elim
theorem gh.d {σ : aL} {vs : List V} {d : D} {ds : List D} (h : gh σ vs ds) : gh σ (.d d :: vs) (d :: ds) := ⟨⟨d, rfl, .refl _⟩, h⟩
theorem gh.nl {σ : aL} {vs : List V} {k : Option Nat} {ds : List D} (h : gh σ vs ds) : gh σ (.d .nils :: vs) (.vec k [] :: ds) := ⟨⟨.nils, rfl, .nils k⟩, h⟩
theorem gh.loc {σ : aL} {vs : List V} {id len : Nat} {m : Bool} {k : Option Nat} {α : Type} {xs : List α} {e : α → D} {ds : List D} (hid : σ id = some (.lst m k (xs.map e))) (hl : len = xs.length) (h : gh σ vs ds) : gh σ (.loc id 0 len :: vs) (.vec k (xs.map e) :: ds) :=
  ⟨⟨_, ql hid (by simpa using hl), .refl _⟩, h⟩
theorem RV.agg {σ : aL} {vs cs : List V} {es ds : List D} (hc : gh σ cs es) (h : RV σ vs ds) : RV σ (.agg cs :: vs) (.agg es :: ds) := by
  obtain ⟨es0, g1, g2, g3⟩ := hc.all
  exact ⟨⟨.agg es0, by simp [fJ, g1], .agg _ _ g2 g3⟩, h⟩
def mo : List D → List D → Prop
  | [], [] => True
  | a :: l, b :: r => eg a b ∧ mo l r
  | _, _ => False
theorem mo.all : ∀ {l r : List D}, mo l r → l.length = r.length ∧ ∀ (i : Nat) a b, l[i]? = some a → r[i]? = some b → eg a b
  | [], [], _ => ⟨rfl, fun i a b h => by simp at h⟩
  | x :: l, y :: r, h => by
    obtain ⟨h1, h2⟩ := mo.all h.2
    refine ⟨by simp [h1], fun i u v hu hv => ?_⟩
    cases i with
    | zero => simp at hu hv; subst hu; subst hv; exact h.1
    | succ i => exact h2 i u v (by simpa using hu) (by simpa using hv)
  | [], _ :: _, h => h.elim
  | _ :: _, [], h => h.elim
theorem eg.aggs {l r : List D} (h : mo l r) : eg (.agg l) (.agg r) := .agg l r h.all.1 h.all.2
theorem bH {res : List gO} {e : Exit} {s' : S} {v : V} {d : D} (he : e = .normal ∨ e = .ret) (h1 : fB s' res = some [v]) (h2 : RV s'.σ [v] [d]) : FQ res d e s' := by
  obtain ⟨⟨d0, g1, g2⟩, _⟩ := h2
  refine ⟨he, [v], h1, d0, ?_, g2⟩
  cases v with
  | tup vs => simp [fJ, eZ] at g1
  | _ => exact g1
theorem cq {res : List gO} {e : Exit} {s' : S} {v v' : V} {vs : List V} {ds : List D} (he : e = .normal ∨ e = .ret) (h1 : fB s' res = some (v :: v' :: vs)) (h2 : RV s'.σ (v :: v' :: vs) ds) : FQ res (.tup ds) e s' := by
  obtain ⟨ds0, g1, g2, g3⟩ := h2.all
  refine ⟨he, _, h1, .tup ds0, ?_, .tup _ _ g2 g3⟩
  show kY s'.σ (lO (v :: v' :: vs)) = _
  unfold lO
  split
  · rename_i xs hx
    have : cg ((v :: v' :: vs).map (fJ s'.σ)) = some xs := by
      have key : ∀ (l : List V) (xs : List D), cg (l.map V.toD) = some xs → cg (l.map (fJ s'.σ)) = some xs := by
        intro l
        induction l with
        | nil => intro xs h; exact h
        | cons u l ih =>
          intro xs h
          cases u <;> simp [V.toD] at h
          rename_i q
          obtain ⟨ys, h1, rfl⟩ := h
          simp [fJ, eZ, ih ys h1]
      exact key _ _ hx
    rw [this] at g1
    cases g1
    rfl
  · simp only [kY, g1, Option.map_some]
theorem ud {vs : List V} {id len : Nat} {k : Option Nat} {α : Type} {xs : List α} {e : α → D} {ds : List D} (hid : σ id = some (.lst false k (xs.map e))) (hl : len = xs.length) (h : bq σ vs ds) : bq σ (.loc id 0 len :: vs) (.vec k (xs.map e) :: ds) := bq.lc hid (by simpa using hl) h
theorem gQ {β γ : Type} {f : β → Option γ} {a : β} {x : γ} {l : List β} {r : List γ} (h : f a = some x) (h' : cg (l.map f) = some r) : cg ((a :: l).map f) = some (x :: r) := by
  simp [h, h']
theorem nY {β γ : Type} {f : β → Option γ} : cg (([] : List β).map f) = some [] := rfl
theorem qm {id len : Nat} {k : Option Nat} {α : Type} {xs : List α} {e : α → D} (hid : σ id = some (.lst false k (xs.map e))) (hl : len = xs.length) : dR σ (.loc id 0 len) = some (.vec k (xs.map e)) := by
  subst hl
  simp only [dR, hid]
  rw [if_pos (by simp)]
  congr 2
  rw [List.drop_zero]
  exact List.take_of_length_le (by simp)
theorem jp {x : D} : dR σ (.d x) = some x := rfl
theorem ue {cs : List V} {ds : List D} (h : cg (cs.map (dR σ)) = some ds) : dH σ (.agg cs) = some (.agg ds) := by
  simp [dH, h]
theorem zP {id len : Nat} {k : Option Nat} {α : Type} {xs : List α} {e : α → D} (hid : σ id = some (.lst false k (xs.map e))) (hl : len = xs.length) : dH σ (.loc id 0 len) = some (.vec k (xs.map e)) := qm hid hl
theorem uf {parts : List AX} {m : Bool} {k : Option Nat} {ds : List D} (h : cg (parts.map fun x => dH σ (aF T x)) = some ds) (hs : ds.all (fun d => d.shape k && d.cells.all D.one) = true) : aI (.bsliceV k parts m) (aF T) σ n = some (.loc n 0 ds.length, aw σ n (some (.lst m k ds)), n + 1) := by
  simp only [aI, h, hs, if_true]
def mq (σ : aL) : List V → List V → Prop
  | [], [] => True
  | x :: l, y :: r => (x = y ∨ ∃ d, dH σ x = some d ∧ y = .d d) ∧ mq σ l r
  | _, _ => False
theorem mq.all {σ : aL} : ∀ {l r : List V}, mq σ l r → l.length = r.length ∧ ∀ (i : Nat) y, r[i]? = some y → ∃ x, l[i]? = some x ∧ (x = y ∨ ∃ d, dH σ x = some d ∧ y = .d d)
  | [], [], _ => ⟨rfl, fun i y h => by simp at h⟩
  | x :: l, y :: r, h => by
    obtain ⟨h1, h2⟩ := mq.all h.2
    refine ⟨by simp [h1], fun i z hz => ?_⟩
    cases i with
    | zero => simp at hz; subst hz; exact ⟨x, rfl, h.1⟩
    | succ i => exact h2 i z (by simpa using hz)
  | [], _ :: _, h => h.elim
  | _ :: _, [], h => h.elim
theorem dp.sees {P : Program} {f : Nat} {vals vals' : List V} {σ σ' : aL} {n n' : Nat} {v : V} (h : gf P f vals' σ n v σ' n') (hv : mq σ vals vals') : gf P f vals σ n v σ' n' := by
  obtain ⟨hl, hv⟩ := hv.all
  refine ⟨h.1, fun A μ w vs hs hfr hlen hrel => h.2 A μ w vs hs hfr (by omega) fun i y u hy hu => ?_⟩
  obtain ⟨x, hx, rfl | ⟨d, hd, rfl⟩⟩ := hv i y hy
  · exact hrel i x u hx hu
  · exact .d _ _ (pS hs hd (hrel i x u hx hu))
theorem zQ {ks : List Ck} {a b : List D} {p : Bool} (h1 : a.length = ks.length) (h2 : b.length = ks.length) (h : cK ks a b = some p) : jT ks (.d (.agg a)) (.d (.agg b)) = some p := by
  simp [jT, h1, h2, h]
theorem ug {a b : ByteArray} : a.toList = b.toList ↔ a = b := by
  rw [ByteArray.toList_eq, ByteArray.toList_eq]
  constructor
  · intro h
    have : a.data = b.data := Array.toList_inj.1 h
    cases a; cases b; simp at this; subst this; rfl
  · rintro rfl; rfl
theorem zR {f : Nat} {cs : List V} {ds : List D} (h : eH σ cs ds) : ep σ (.func f cs) (.func f ds) := .func h.all.1 h.all.2
theorem eH.c {v : V} {d : D} {l : List V} {r : List D} (h : ep σ v d) (h' : eH σ l r) : eH σ (v :: l) (d :: r) := ⟨h, h'⟩
theorem eH.nil0 : eH σ [] [] := trivial
theorem dC.c {ρ : Nat → Nat} {n0 : Nat} {v u : V} {l r : List V} (h : VN ρ n0 v u) (h' : dC ρ n0 l r) : dC ρ n0 (v :: l) (u :: r) := ⟨h, h'⟩
theorem dC.nil0 {ρ : Nat → Nat} {n0 : Nat} : dC ρ n0 [] [] := trivial
theorem SN.c {ρ : Nat → Nat} {n0 i : Nat} {b b' : bu} {l : List (Nat × bu)} (hi : i < n0) (hb : σ (ρ i) = some b') (h : BN ρ n0 b' b) (h' : SN ρ n0 σ l) : SN ρ n0 σ ((i, b) :: l) := ⟨⟨hi, b', hb, h⟩, h'⟩
theorem SN.nil0 {ρ : Nat → Nat} {n0 : Nat} : SN ρ n0 σ [] := trivial
theorem nZ {m i : Nat} {b : bu} {l : List (Nat × bu)} (h : i < m) (h' : ∀ q ∈ l, q.1 < m) : ∀ q ∈ (i, b) :: l, q.1 < m := by
  intro q hq
  rcases List.mem_cons.1 hq with rfl | hq
  · exact h
  · exact h' q hq
theorem n5 {m : Nat} : ∀ q ∈ ([] : List (Nat × bu)), q.1 < m := by intro q hq; cases hq
end
end Go.AM
end
section
set_option linter.unusedVariables false
set_option linter.unusedSectionVars false
set_option linter.unusedSimpArgs false
namespace Go.AM
open Go
theorem w_u8 (n : Int) : IntKind.u8.wrap n = n % 256 := zk n
theorem qo (n : Int) : IntKind.u16.wrap n = n % 65536 := zl n
theorem uh {n : Int} (h0 : -9223372036854775808 ≤ n) (h1 : n < 9223372036854775808) : IntKind.i64.wrap n = n := zm h0 h1
theorem ui (i k : Nat) : bA (i : Int) ((i + k : Nat) : Int) = (List.range k).map fun (j : Nat) => ((i + j : Nat) : Int) := by
  simp only [bA]
  rw [show (((i + k : Nat) : Int) - (i : Int)).toNat = k by omega]
  refine List.map_congr_left fun j _ => ?_
  push_cast; rfl
theorem k6 (i k : Nat) : bA (i : Int) ((i + (k + 1) : Nat) : Int) = (i : Int) :: bA ((i + 1 : Nat) : Int) ((i + (k + 1) : Nat) : Int) := by
  rw [ui, show i + (k + 1) = (i + 1) + k by omega, ui, List.range_succ_eq_map]
  simp only [List.map_cons, List.map_map, Nat.add_zero]
  congr 1
  refine List.map_congr_left fun j _ => ?_
  simp only [Function.comp_apply, Nat.succ_eq_add_one]
  push_cast; omega
theorem k7 (i : Nat) : bA (i : Int) (i : Int) = [] := by simp [bA]
theorem dW {α : Type} {xs ys : List α} (h : xs.length + ys.length ≤ 4294967296) : cY xs ys = some (xs ++ ys) := by unfold cY; rw [if_pos h]
theorem cd {α : Type} (l : List α) (i : Nat) : be l (i : Int) = l[i]? := by
  unfold be; rw [if_pos (by omega), Int.toNat_natCast]
theorem mr (k : Nat) (h : k ≤ 1000000) : ∃ m, c9 = m + k := ⟨c9 - k, by unfold c9; omega⟩
theorem n6 {σ : Type} (f : Int → σ → Option σ) (P : Nat → σ → Prop) : ∀ (k i : Nat) (s : σ), P i s → (∀ j s, i ≤ j → j < i + k → P j s → ∃ s', f (j : Int) s = some s' ∧ P (j + 1) s') →
    ∃ s', cQ f (bA (i : Int) ((i + k : Nat) : Int)) s = some s' ∧ P (i + k) s'
  | 0, i, s, h, _ => ⟨s, by rw [show i + 0 = i from rfl, k7]; rfl, h⟩
  | k + 1, i, s, h, hs => by
    obtain ⟨s1, e1, h1⟩ := hs i s (Nat.le_refl _) (by omega) h
    obtain ⟨s2, e2, h2⟩ := n6 f P k (i + 1) s1 h1 fun j s hj hk => hs j s (by omega) (by omega)
    refine ⟨s2, ?_, by rwa [show i + (k + 1) = i + 1 + k by omega]⟩
    rw [k6]
    simp only [cQ]
    rw [e1]
    simp only [Option.bind_some]
    rw [show i + (k + 1) = i + 1 + k by omega]
    exact e2
theorem jq {α σ : Type} (f : Int → σ → Option σ) (l : List α) (P : List α → σ → Prop) (s : σ) (h0 : P [] s) (hs : ∀ i x s, l[i]? = some x → P (l.take i) s → ∃ s', f (i : Int) s = some s' ∧ P (l.take i ++ [x]) s') :
    ∃ s', cQ f (bA 0 (l.length : Int)) s = some s' ∧ P l s' := by
  have := n6 f (fun i s => P (l.take i) s) l.length 0 s (by simpa using h0) (fun j s _ hj h => by
    have hj' : j < l.length := by omega
    obtain ⟨s', e, h'⟩ := hs j l[j] s (bU hj') h
    exact ⟨s', e, by rwa [List.take_add_one, bU hj']⟩)
  obtain ⟨s', e, h'⟩ := this
  refine ⟨s', by simpa using e, by simpa using h'⟩
theorem ms {σ ρ : Type} (f : Int → σ → Option (Br σ ρ)) (P : Nat → σ → Prop) (B : σ → Prop) (R : ρ → Prop) : ∀ (k i : Nat) (s : σ), P i s → (∀ j s, i ≤ j → j < i + k → P j s → (∃ s', f (j : Int) s = some (.next s') ∧ P (j + 1) s') ∨ (∃ s', f (j : Int) s = some (.brk s') ∧ B s') ∨ ∃ r, f (j : Int) s = some (.ret r) ∧ R r) →
    (∃ s', b6 f (bA (i : Int) ((i + k : Nat) : Int)) s = some (.done s') ∧ (P (i + k) s' ∨ B s')) ∨ ∃ r, b6 f (bA (i : Int) ((i + k : Nat) : Int)) s = some (.ret r) ∧ R r
  | 0, i, s, h, _ => .inl ⟨s, by rw [show i + 0 = i from rfl, k7]; rfl, .inl h⟩
  | k + 1, i, s, h, hs => by
    rw [k6]
    simp only [b6]
    rcases hs i s (Nat.le_refl _) (by omega) h with ⟨s1, e1, h1⟩ | ⟨s1, e1, h1⟩ | ⟨r, e1, h1⟩
    · rw [e1]
      simp only [Option.bind_some]
      rw [show i + (k + 1) = i + 1 + k by omega]
      exact ms f P B R k (i + 1) s1 h1 fun j s hj hk => hs j s (by omega) (by omega)
    · rw [e1]; exact .inl ⟨s1, rfl, .inr h1⟩
    · rw [e1]; exact .inr ⟨r, rfl, h1⟩
theorem n7 {α σ ρ : Type} (f : Int → σ → Option (Br σ ρ)) (l : List α) (P : List α → σ → Prop) (B : σ → Prop) (R : ρ → Prop) (s : σ) (h0 : P [] s)
    (hs : ∀ i x s, l[i]? = some x → P (l.take i) s → (∃ s', f (i : Int) s = some (.next s') ∧ P (l.take i ++ [x]) s') ∨ (∃ s', f (i : Int) s = some (.brk s') ∧ B s') ∨ ∃ r, f (i : Int) s = some (.ret r) ∧ R r) :
    (∃ s', b6 f (bA 0 (l.length : Int)) s = some (.done s') ∧ (P l s' ∨ B s')) ∨ ∃ r, b6 f (bA 0 (l.length : Int)) s = some (.ret r) ∧ R r := by
  have := ms f (fun i s => P (l.take i) s) B R l.length 0 s (by simpa using h0) (fun j s _ hj h => by
    have hj' : j < l.length := by omega
    rcases hs j l[j] s (bU hj') h with ⟨s', e, h'⟩ | h | h
    · exact .inl ⟨s', e, by rwa [List.take_add_one, bU hj']⟩
    · exact .inr (.inl h)
    · exact .inr (.inr h))
  simpa using this
end Go.AM
end
section
set_option linter.unusedVariables false
set_option linter.unusedSectionVars false
set_option linter.unusedSimpArgs false
namespace Go.AM
open Go
def e9 {α ρ : Type} (step : α → Option ρ) : List α → Option ρ
  | [] => none
  | x :: l => match step x with
    | some r => some r
    | none => e9 step l
def fL {ρ : Type} : Option ρ → Ex Unit ρ
  | some r => .ret r
  | none => .done ()
def iC {ρ : Type} : Option ρ → Br Unit ρ
  | some r => .ret r
  | none => .next ()
theorem uj {α ρ : Type} (f : Int → Unit → Option (Br Unit ρ)) (step : α → Option ρ) : ∀ (l : List α) (a : Nat), (∀ (j : Nat) x, l[j]? = some x → f ((a + j : Nat) : Int) () = some (iC (step x))) →
    b6 f (bA (a : Int) ((a + l.length : Nat) : Int)) () = some (fL (e9 step l))
  | [], a, _ => by rw [show a + ([] : List α).length = a from rfl, k7]; rfl
  | x :: l, a, h => by
    rw [show a + (x :: l).length = a + (l.length + 1) by simp, k6]
    simp only [b6]
    have h0 := h 0 x rfl
    rw [Nat.add_zero] at h0
    rw [h0]
    simp only [Option.bind_some, e9]
    cases step x with
    | some r => rfl
    | none =>
      show b6 f _ () = _
      rw [show a + (l.length + 1) = a + 1 + l.length by omega]
      exact uj f step l (a + 1) fun j y hj => by rw [show a + 1 + j = a + (j + 1) by omega]; exact h (j + 1) y (by simpa using hj)
theorem k8 {α ρ : Type} (f : Int → Unit → Option (Br Unit ρ)) (step : α → Option ρ) (l : List α) (h : ∀ (j : Nat) x, l[j]? = some x → f (j : Int) () = some (iC (step x))) :
    b6 f (bA 0 (l.length : Int)) () = some (fL (e9 step l)) := by
  have := uj f step l 0 (fun j x hj => by rw [Nat.zero_add]; exact h j x hj)
  simpa using this
theorem zS {α β ρ : Type} (f : Int → Unit → Option (Br Unit ρ)) (step : α × β → Option ρ) (l : List α) (m : List β) (hl : l.length = m.length) (h : ∀ (j : Nat) x y, l[j]? = some x → m[j]? = some y → f (j : Int) () = some (iC (step (x, y)))) :
    b6 f (bA 0 (l.length : Int)) () = some (fL (e9 step (l.zip m))) := by
  have hz : (l.zip m).length = l.length := by simp; omega
  have := k8 f step (l.zip m) fun j x hj => by
    rw [List.getElem?_zip_eq_some] at hj
    exact h j x.1 x.2 hj.1 hj.2
  rwa [hz] at this
end Go.AM
end
section
namespace Go.AM
def iT {α : Type} (l : List α) (lo hi i : Int) : Option α := if 0 ≤ lo ∧ 0 ≤ i ∧ i < hi - lo then be l (lo + i) else none
theorem zT {α : Type} {l : List α} {lo hi i : Int} {v : α} (h : iT l lo hi i = some v) : (0 ≤ lo ∧ 0 ≤ i ∧ i < hi - lo) ∧ be l (lo + i) = some v := by
  unfold iT at h
  split at h
  · rename_i hc; exact ⟨hc, h⟩
  · cases h
end Go.AM
end
