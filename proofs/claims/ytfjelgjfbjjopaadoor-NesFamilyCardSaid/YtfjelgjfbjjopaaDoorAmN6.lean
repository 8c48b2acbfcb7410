import Derived.Test.YtfjelgjfbjjopaaDoorAmN5
import Derived.Laws.Strings
set_option linter.unusedVariables false
set_option linter.unusedSectionVars false
set_option linter.unusedSimpArgs false
namespace Go.AM
open Go Go.RowKit
variable [Glob]
section
variable {P : Program} {N na : Nat} {A : Nat → Nat → Prop} {μ μ' : Nat → Option bF} {T T' : Nat → V} {σ σ' : aD} {w w' : World} {a : Act} {n n' : Nat} {l : List bJ} {dst : Option Nat} {op : bA} {K : S → Prop}
theorem du {α β : Type} {o : Option α} {g : α → β} {x : β} (h : o.map g = some x) : ∃ y, o = some y ∧ g y = x := by
  cases o with
  | none => cases h
  | some y => exact ⟨y, rfl, cd h⟩
theorem BN.vars {ρ : Nat → Nat} {n0 : Nat} {vs us : List V} (h : aw ρ n0 vs us) : BN ρ n0 (.var vs) (.var us) := .var vs us h.all.1 h.all.2
theorem VN.aggs {ρ : Nat → Nat} {n0 : Nat} {vs us : List V} (h : aw ρ n0 vs us) : VN ρ n0 (.agg vs) (.agg us) := .agg vs us h.all.1 h.all.2
theorem jl {s : S} (t : Nat) (m : Bool) (k : Option Nat) (h : s.T t = .d .nils) : bO na s ⟨aj s.T t (.loc s.n 0 0), aj s.σ s.n (some (.lst m k [])), s.n + 1⟩ := by
  refine bO.nil _ m k fun i => ?_
  by_cases e : i = t
  · subst e; exact .inr ⟨bC _ _ _, h⟩
  · exact .inl (bn _ _ e)
theorem tW {cs cs' : List V} {pl : Option bF} {b o : Nat} (h : aS.ownsAt (.var cs) pl b o) : aS.ownsAt (.var cs') pl b o := by
  cases pl with
  | none => exact h
  | some p => cases p <;> exact h
theorem pU {A : Nat → Nat → Prop} {μ : Nat → Option bF} {σ : aD} {id : Nat} {cs cs' : List V} (hid : σ id = some (.var cs)) : ax A μ (aj σ id (some (.var cs'))) = ax A μ σ := by
  funext b o
  apply propext
  unfold ax dH
  refine or_congr ⟨?_, ?_⟩ Iff.rfl
  · rintro ⟨j, blk, h1, h2⟩
    by_cases e : j = id
    · subst e
      rw [bC] at h1; cases h1
      exact ⟨j, _, hid, tW h2⟩
    · rw [bn _ _ e] at h1; exact ⟨j, blk, h1, h2⟩
  · rintro ⟨j, blk, h1, h2⟩
    by_cases e : j = id
    · subst e
      rw [hid] at h1; cases h1
      exact ⟨j, _, bC _ _ _, tW h2⟩
    · exact ⟨j, blk, by rw [bn _ _ e]; exact h1, h2⟩
theorem tX {μ : Nat → Option bF} {σ : aD} {w : World} {id : Nat} {cs cs' : List V} (hid : σ id = some (.var cs)) : aY μ σ w μ (aj σ id (some (.var cs'))) w where
  os := rfl
  tape := rfl
  output := rfl
  size := Nat.le_refl _
  block _ _ _ := rfl
  cells _ c _ _ hc := ⟨c, hc, rfl, fun _ _ => rfl⟩
  own b o ho := by
    have : ax (fun _ _ => False) μ (aj σ id (some (.var cs'))) b o := .inl ho
    rw [pU hid] at this
    exact .inl (this.elim (fun h => h) (fun h => h.elim))
  ownB b ho := by
    obtain ⟨j, blk, k, h1, h2⟩ := ho
    by_cases e : j = id
    · subst e; exact .inl ⟨j, _, k, hid, h2⟩
    · rw [bn _ _ e] at h1; exact .inl ⟨j, blk, k, h1, h2⟩
  grow _ _ h := h
theorem zq {s : S} (id j m : Nat) {cs : List V} {blk : aS} (hid : s.σ id = some (.var cs)) (hj : cs[j]? = some (.d .nils)) (hm : s.σ m = some blk) : bO na s ⟨s.T, aj s.σ id (some (.var (cs.set j (.loc m 0 0)))), s.n⟩ := by
  intro N A μ a w ⟨hs, hfr⟩
  have hp := cL.placed (hs.store.blks m _ hm)
  have hst : aP A μ (aj s.σ id (some (.var (cs.set j (.loc m 0 0))))) w := by
    refine hs.store.update (tX hid) id (fun q x hq h => by rwa [bn _ _ hq] at h) (fun q hq => rfl) (fun x hx => ?_) (fun _ _ _ _ _ _ _ => rfl) (fun b k' x hx hp' => ⟨fun o => hs.store.amb id _ b k' hid hp' o, fun q y k'' hq hy hq' => hq ?_⟩)
    · simp only [bC, Option.some.injEq] at hx
      subst hx
      rw [pU hid]
      obtain ⟨b, c, ty, fr, h1, h2, h3, h4, h5⟩ := hs.store.blks id _ hid
      refine ⟨b, c, ty, fr, h1, h2, h3, by simpa using h4, fun i x v hx hv => ?_⟩
      rw [List.getElem?_set] at hx
      split at hx
      · rename_i e
        subst e
        split at hx
        · cases hx
          obtain ⟨g1, g2⟩ := h5 j _ v hj hv
          refine ⟨g1, ?_⟩
          cases g2 with | d _ _ hd => cases hd; exact .loc0 _ _ _ hp
        · cases hx
      · exact h5 i x v hx hv
    · rw [bn _ _ hq] at hy
      exact hs.store.inj q id y _ b k'' k' hy hid hq' hp'
  refine ⟨μ, ⟨⟨hs.size, hs.defers, fun i => ?_, hst⟩, hfr⟩, (tX hid).ng⟩
  show aJ μ (ax A μ (aj s.σ id (some (.var (cs.set j (.loc m 0 0)))))) w (s.T i) _
  rw [pU hid]
  exact hs.tmps i
theorem jS {s : S} (id j : Nat) (m : Bool) (k : Option Nat) {cs : List V} (hid : s.σ id = some (.var cs)) (hj : cs[j]? = some (.d .nils)) (hlt : id ≠ s.n) : bO na s ⟨s.T, aj (aj s.σ s.n (some (.lst m k []))) id (some (.var (cs.set j (.loc s.n 0 0)))), s.n + 1⟩ :=
  bO.trans (bO.nil s.T m k fun i => .inl rfl) (zq id j s.n (s := ⟨s.T, aj s.σ s.n (some (.lst m k [])), s.n + 1⟩) ((bn _ _ hlt).trans hid) hj (bC _ _ _))
def pV (T : Nat → V) (ts : List Nat) (v : V) : Nat → V := fun i => if ts.contains i then v else T i
theorem zr {s : S} (k : Nat) {v : V} {d : D} (hT : s.T k = v) (hv : dX s.σ v = some d) : bO na s ⟨pV s.T [k] (.d d), s.σ, s.n⟩ := by
  intro N A μ a w ⟨hs, hfr⟩
  refine ⟨μ, ⟨⟨hs.size, hs.defers, fun i => ?_, hs.store⟩, hfr⟩, (aY.refl _ _ _).ng⟩
  unfold pV
  by_cases c : i = k
  · subst c
    have : ([i] : List Nat).contains i = true := by simp
    simp only [this, if_true]
    have h0 := hs.tmps i
    rw [hT] at h0
    exact .d _ _ (kA hs.store hv h0)
  · have : ([k] : List Nat).contains i = false := by simpa using c
    simp only [this, Bool.false_eq_true, if_false]
    exact hs.tmps i
theorem zt {s : S} (t : Nat) {id : Nat} {k : Option Nat} {α : Type} {xs l : List α} {e : α → D} {lo hi : Int} (hT : s.T t = .loc id lo.toNat (hi.toNat - lo.toNat)) (hid : s.σ id = some (.lst false k (xs.map e))) (hc : fC xs lo hi = some l) : bO na s ⟨pV s.T [t] (.d (.vec k (l.map e))), s.σ, s.n⟩ := by
  refine zr t hT ?_
  unfold fC at hc
  split at hc
  · rename_i h
    cases hc
    simp only [dX, hid, List.length_map]
    rw [if_pos (by omega), List.map_take, List.map_drop]
  · cases hc
section
variable {α : Type} {e : α → D} {x y : AX} {k kb : Option Nat}
theorem zu {β : Type} {id : Nat} {xs l : List β} {lo hi : Int} (hx : aG T x = .loc id lo.toNat (hi.toNat - lo.toNat)) (hc : fC xs lo hi = some l) : aF (.len x) (aG T) σ n = some (.d (.int .i64 l.length), σ, n) := by
  have : hi.toNat - lo.toNat = l.length := by
    unfold fC at hc
    split at hc
    · cases hc; simp; omega
    · cases hc
  simp [aF, hx, this]
theorem b6 {xs : List α} (hx : aG T x = .d (.vec k (xs.map e))) : aF (.len x) (aG T) σ n = some (.d (.int .i64 xs.length), σ, n) := by simp [aF, hx]
theorem zw {d z : D} {j : Nat} (hx : aG T x = .d (.cptr kb d j)) (hd : fM kb d j k = some z) : aF (.load k x) (aG T) σ n = some (.d z, σ, n) := by simp [aF, dh, hx, hd]
theorem pW (ds : List D) : jC (ds.map V.d) = .d (.agg ds) := by
  have : cu ((ds.map V.d).map V.toD) = some ds := by
    induction ds with
    | nil => rfl
    | cons d ds ih => simp only [List.map_cons, V.toD, ko]; rw [ih]; rfl
  simp only [jC, this]
def jT : Nat → List V → List V → List V
  | 0, [], cs => cs
  | 0, v :: vs, [] => v :: vs
  | 0, v :: vs, _ :: cs => v :: jT 0 vs cs
  | _ + 1, vs, [] => vs
  | off + 1, vs, c :: cs => c :: jT off vs cs
theorem pX : ∀ (off : Nat) (vs cs : List V), off + vs.length ≤ cs.length → jT off vs cs = cs.take off ++ vs ++ cs.drop (off + vs.length)
  | 0, [], cs, _ => by simp [jT]
  | 0, v :: vs, [], h => by simp at h
  | 0, v :: vs, c :: cs, h => by
    have := pX 0 vs cs (by simp at h ⊢; omega)
    simp [jT, this]
  | off + 1, vs, [], h => by simp at h
  | off + 1, vs, c :: cs, h => by
    have := pX off vs cs (by simp at h ⊢; omega)
    rw [show off + 1 + vs.length = (off + vs.length) + 1 by omega]
    simp [jT, this]
def nF (cells : List V) : List (Nat × Nat × V) → Option (List V)
  | [] => some cells
  | (off, size, v) :: r =>
    if v.cells.all V.one = true ∧ v.cells.length = size ∧ off + size ≤ cells.length then nF (jT off v.cells cells) r else none
theorem tY : ∀ (parts : List (Nat × Nat × V)) (cells : List V), nF cells parts = iD cells parts
  | [], _ => rfl
  | (off, size, v) :: r, cells => by
    simp only [nF, iD]
    split
    · rename_i h
      obtain ⟨_, h2, h3⟩ := h
      subst h2
      rw [pX off v.cells cells h3, tY r]
    · rfl
theorem eJ {zero : List D} {parts : List (Nat × Nat × AX)} {ds : List D} (h : nF (zero.map V.d) (parts.map fun p => (p.1, p.2.1, aG T p.2.2)) = some (ds.map V.d)) : aF (.build zero parts) (aG T) σ n = some (.d (.agg ds), σ, n) := by
  rw [tY] at h
  simp only [aF, h, Option.map_some, pW]
theorem eu {m id j : Nat} {cs : List V} {ds : List D} (hx : aG T x = .ptr id 0 j) (hid : σ id = some (.var cs)) (hl : j + m ≤ cs.length) (hs : (cs.drop j).take m = ds.map V.d) : aF (.load (some m) x) (aG T) σ n = some (.d (.agg ds), σ, n) := by
  simp only [aF, dh, hx, hid, fL, Nat.zero_add, if_pos hl, hs, pW, Option.map_some]
theorem iN {s : S} {t m id j : Nat} {cs : List V} {ds : List D} {l : List gF} {vs : List V} (hx : s.T t = .ptr id 0 j) (hid : s.σ id = some (.var cs)) (hl : j + m ≤ cs.length) (hs : (cs.drop j).take m = ds.map V.d) (hr : fd s l = some vs) : fd s (.cell t (some m) :: l) = some (.d (.agg ds) :: vs) := by
  simp only [fd, lS, dh, hx, hid, fL, Nat.zero_add, if_pos hl, hs, pW, hr]
theorem bx {s : S} {t : Nat} {v : V} {l : List gF} {vs : List V} (hx : s.T t = v) (hr : fd s l = some vs) : fd s (.t t :: l) = some (v :: vs) := by
  simp only [fd, lS, hx, hr]
theorem zy {m : Nat} {xs : List α} {i : Int} {v : α} {kk : IntKind} {d : D} {j : Nat} (h : aN xs i = some v) (hm : xs.length = m) (hx : aG T x = .d (.cptr kb d j)) (hy : aG T y = .d (.int kk i)) : aF (.iaddrA m k x y) (aG T) σ n = some (.d (.cptr kb d (j + i.toNat * ao k)), σ, n) := by
  obtain ⟨h0, h1⟩ := pT h
  have : i < (m : Int) := by omega
  simp [aF, hx, hy, h0, this]
theorem A8.put_l {a a' : A8 α} {i : Int} {v : α} (h : a.put i v = some a') : dO a.l i v = some a'.l := by
  unfold A8.put at h
  cases hg : dO a.l i v with
  | none => rw [hg] at h; cases h
  | some xs =>
    rw [hg] at h
    obtain ⟨_, _, rfl⟩ := nC hg
    have hl : (a.l.set i.toNat v).length = 8 := by simp [A8.l]
    generalize a.l.set i.toNat v = q at h hl
    match q, hl with
    | [_, _, _, _, _, _, _, _], _ => cases h; rfl
theorem A2.put_l {a a' : A2 α} {i : Int} {v : α} (h : a.put i v = some a') : dO a.l i v = some a'.l := by
  unfold A2.put at h
  cases hg : dO a.l i v with
  | none => rw [hg] at h; cases h
  | some xs =>
    rw [hg] at h
    obtain ⟨_, _, rfl⟩ := nC hg
    have hl : (a.l.set i.toNat v).length = 2 := by simp [A2.l]
    generalize a.l.set i.toNat v = q at h hl
    match q, hl with
    | [_, _], _ => cases h; rfl
end
def RV (σ : aD) : List V → List D → Prop
  | [], [] => True
  | v :: l, d :: r => (∃ d0, gG σ v = some d0 ∧ dM d0 d) ∧ RV σ l r
  | _, _ => False
theorem RV.all {σ : aD} : ∀ {vs : List V} {ds : List D}, RV σ vs ds → ∃ ds0, cu (vs.map (gG σ)) = some ds0 ∧ ds0.length = ds.length ∧ ∀ (i : Nat) a b, ds0[i]? = some a → ds[i]? = some b → dM a b
  | [], [], _ => ⟨[], rfl, rfl, fun i a b h => by simp at h⟩
  | v :: vs, d :: ds, ⟨⟨d0, h1, h2⟩, h3⟩ => by
    obtain ⟨ds0, g1, g2, g3⟩ := RV.all h3
    refine ⟨d0 :: ds0, by simp [h1, g1], by simp [g2], fun i a b ha hb => ?_⟩
    cases i with
    | zero => simp at ha hb; subst ha; subst hb; exact h2
    | succ i => exact g3 i a b (by simpa using ha) (by simpa using hb)
  | [], _ :: _, h => h.elim
  | _ :: _, [], h => h.elim
theorem RV.d {σ : aD} {vs : List V} {d : D} {ds : List D} (h : RV σ vs ds) : RV σ (.d d :: vs) (d :: ds) := ⟨⟨d, rfl, .refl _⟩, h⟩
theorem RV.sub {σ : aD} {vs : List V} {d0 d : D} {ds : List D} (hs : dM d0 d) (h : RV σ vs ds) : RV σ (.d d0 :: vs) (d :: ds) := ⟨⟨d0, rfl, hs⟩, h⟩
theorem RV.nl {σ : aD} {vs : List V} {k : Option Nat} {ds : List D} (h : RV σ vs ds) : RV σ (.d .nils :: vs) (.vec k [] :: ds) := ⟨⟨.nils, rfl, .nils k⟩, h⟩
theorem tZ {σ : aD} {id len : Nat} {m : Bool} {k : Option Nat} {els : List D} (hid : σ id = some (.lst m k els)) (hl : len = els.length) : gU σ (.loc id 0 len) = some (.vec k els) := by
  subst hl; simp [gU, hid]
theorem RV.loc {σ : aD} {vs : List V} {id len : Nat} {m : Bool} {k : Option Nat} {α : Type} {xs : List α} {e : α → D} {ds : List D} (hid : σ id = some (.lst m k (xs.map e))) (hl : len = xs.length) (h : RV σ vs ds) : RV σ (.loc id 0 len :: vs) (.vec k (xs.map e) :: ds) :=
  ⟨⟨_, tZ hid (by simpa using hl), .refl _⟩, h⟩
def eK (σ : aD) : List V → List D → Prop
  | [], [] => True
  | v :: l, d :: r => (∃ d0, gU σ v = some d0 ∧ dM d0 d) ∧ eK σ l r
  | _, _ => False
theorem eK.all {σ : aD} : ∀ {vs : List V} {ds : List D}, eK σ vs ds → ∃ ds0, cu (vs.map (gU σ)) = some ds0 ∧ ds0.length = ds.length ∧ ∀ (i : Nat) a b, ds0[i]? = some a → ds[i]? = some b → dM a b
  | [], [], _ => ⟨[], rfl, rfl, fun i a b h => by simp at h⟩
  | v :: vs, d :: ds, ⟨⟨d0, h1, h2⟩, h3⟩ => by
    obtain ⟨ds0, g1, g2, g3⟩ := eK.all h3
    refine ⟨d0 :: ds0, by simp [h1, g1], by simp [g2], fun i a b ha hb => ?_⟩
    cases i with
    | zero => simp at ha hb; subst ha; subst hb; exact h2
    | succ i => exact g3 i a b (by simpa using ha) (by simpa using hb)
  | [], _ :: _, h => h.elim
  | _ :: _, [], h => h.elim
theorem eK.d {σ : aD} {vs : List V} {d : D} {ds : List D} (h : eK σ vs ds) : eK σ (.d d :: vs) (d :: ds) := ⟨⟨d, rfl, .refl _⟩, h⟩
theorem eK.nl {σ : aD} {vs : List V} {k : Option Nat} {ds : List D} (h : eK σ vs ds) : eK σ (.d .nils :: vs) (.vec k [] :: ds) := ⟨⟨.nils, rfl, .nils k⟩, h⟩
theorem eK.loc {σ : aD} {vs : List V} {id len : Nat} {m : Bool} {k : Option Nat} {α : Type} {xs : List α} {e : α → D} {ds : List D} (hid : σ id = some (.lst m k (xs.map e))) (hl : len = xs.length) (h : eK σ vs ds) : eK σ (.loc id 0 len :: vs) (.vec k (xs.map e) :: ds) :=
  ⟨⟨_, tZ hid (by simpa using hl), .refl _⟩, h⟩
theorem RV.agg {σ : aD} {vs cs : List V} {es ds : List D} (hc : eK σ cs es) (h : RV σ vs ds) : RV σ (.agg cs :: vs) (.agg es :: ds) := by
  obtain ⟨es0, g1, g2, g3⟩ := hc.all
  exact ⟨⟨.agg es0, by simp [gG, g1], .agg _ _ g2 g3⟩, h⟩
def ma : List D → List D → Prop
  | [], [] => True
  | a :: l, b :: r => dM a b ∧ ma l r
  | _, _ => False
theorem ma.all : ∀ {l r : List D}, ma l r → l.length = r.length ∧ ∀ (i : Nat) a b, l[i]? = some a → r[i]? = some b → dM a b
  | [], [], _ => ⟨rfl, fun i a b h => by simp at h⟩
  | x :: l, y :: r, h => by
    obtain ⟨h1, h2⟩ := ma.all h.2
    refine ⟨by simp [h1], fun i u v hu hv => ?_⟩
    cases i with
    | zero => simp at hu hv; subst hu; subst hv; exact h.1
    | succ i => exact h2 i u v (by simpa using hu) (by simpa using hv)
  | [], _ :: _, h => h.elim
  | _ :: _, [], h => h.elim
theorem dM.aggs {l r : List D} (h : ma l r) : dM (.agg l) (.agg r) := .agg l r h.all.1 h.all.2
theorem bK {res : List gF} {e : Exit} {s' : S} {v : V} {d : D} (he : e = .normal ∨ e = .ret) (h1 : fd s' res = some [v]) (h2 : RV s'.σ [v] [d]) : FQ res d e s' := by
  obtain ⟨⟨d0, g1, g2⟩, _⟩ := h2
  refine ⟨he, [v], h1, d0, ?_, g2⟩
  cases v with
  | tup vs => simp [gG, gU] at g1
  | _ => exact g1
theorem fD {res : List gF} {e : Exit} {s' : S} {v v' : V} {vs : List V} {ds : List D} (he : e = .normal ∨ e = .ret) (h1 : fd s' res = some (v :: v' :: vs)) (h2 : RV s'.σ (v :: v' :: vs) ds) : FQ res (.tup ds) e s' := by
  obtain ⟨ds0, g1, g2, g3⟩ := h2.all
  refine ⟨he, _, h1, .tup ds0, ?_, .tup _ _ g2 g3⟩
  show lU s'.σ (lD (v :: v' :: vs)) = _
  unfold lD
  split
  · rename_i xs hx
    have : cu ((v :: v' :: vs).map (gG s'.σ)) = some xs := by
      have key : ∀ (l : List V) (xs : List D), cu (l.map V.toD) = some xs → cu (l.map (gG s'.σ)) = some xs := by
        intro l
        induction l with
        | nil => intro xs h; exact h
        | cons u l ih =>
          intro xs h
          cases u <;> simp [V.toD] at h
          rename_i q
          obtain ⟨ys, h1, rfl⟩ := h
          simp [gG, gU, ih ys h1]
      exact key _ _ hx
    rw [this] at g1
    cases g1
    rfl
  · simp only [lU, g1, Option.map_some]
theorem zA {vs : List V} {id len : Nat} {k : Option Nat} {α : Type} {xs : List α} {e : α → D} {ds : List D} (hid : σ id = some (.lst false k (xs.map e))) (hl : len = xs.length) (h : aQ σ vs ds) : aQ σ (.loc id 0 len :: vs) (.vec k (xs.map e) :: ds) := aQ.lc hid (by simpa using hl) h
theorem gj {β γ : Type} {f : β → Option γ} {a : β} {x : γ} {l : List β} {r : List γ} (h : f a = some x) (h' : cu (l.map f) = some r) : cu ((a :: l).map f) = some (x :: r) := by
  simp [h, h']
theorem kJ {β γ : Type} {f : β → Option γ} : cu (([] : List β).map f) = some [] := rfl
theorem gK {id len : Nat} {k : Option Nat} {α : Type} {xs : List α} {e : α → D} (hid : σ id = some (.lst false k (xs.map e))) (hl : len = xs.length) : dX σ (.loc id 0 len) = some (.vec k (xs.map e)) := by
  subst hl
  simp only [dX, hid]
  rw [if_pos (by simp)]
  congr 2
  rw [List.drop_zero]
  exact List.take_of_length_le (by simp)
theorem nG {cs : List V} {ds : List D} (h : cu (cs.map (dX σ)) = some ds) : dI σ (.agg cs) = some (.agg ds) := by
  simp [dI, h]
theorem pY {id len : Nat} {k : Option Nat} {α : Type} {xs : List α} {e : α → D} (hid : σ id = some (.lst false k (xs.map e))) (hl : len = xs.length) : dI σ (.loc id 0 len) = some (.vec k (xs.map e)) := gK hid hl
theorem t3 {parts : List AX} {m : Bool} {k : Option Nat} {ds : List D} (h : cu (parts.map fun x => dI σ (aG T x)) = some ds) (hs : ds.all (fun d => d.shape k && d.cells.all D.one) = true) : aF (.bsliceV k parts m) (aG T) σ n = some (.loc n 0 ds.length, aj σ n (some (.lst m k ds)), n + 1) := by
  simp only [aF, h, hs, if_true]
def mb (σ : aD) : List V → List V → Prop
  | [], [] => True
  | x :: l, y :: r => (x = y ∨ ∃ d, dI σ x = some d ∧ y = .d d) ∧ mb σ l r
  | _, _ => False
theorem mb.all {σ : aD} : ∀ {l r : List V}, mb σ l r → l.length = r.length ∧ ∀ (i : Nat) y, r[i]? = some y → ∃ x, l[i]? = some x ∧ (x = y ∨ ∃ d, dI σ x = some d ∧ y = .d d)
  | [], [], _ => ⟨rfl, fun i y h => by simp at h⟩
  | x :: l, y :: r, h => by
    obtain ⟨h1, h2⟩ := mb.all h.2
    refine ⟨by simp [h1], fun i z hz => ?_⟩
    cases i with
    | zero => simp at hz; subst hz; exact ⟨x, rfl, h.1⟩
    | succ i => exact h2 i z (by simpa using hz)
  | [], _ :: _, h => h.elim
  | _ :: _, [], h => h.elim
theorem b8.sees {P : Program} {f : Nat} {vals vals' : List V} {σ σ' : aD} {n n' : Nat} {v : V} (h : eI P f vals' σ n v σ' n') (hv : mb σ vals vals') : eI P f vals σ n v σ' n' := by
  obtain ⟨hl, hv⟩ := hv.all
  refine ⟨h.1, fun A μ w vs hs hfr hlen hrel => h.2 A μ w vs hs hfr (by omega) fun i y u hy hu => ?_⟩
  obtain ⟨x, hx, rfl | ⟨d, hd, rfl⟩⟩ := hv i y hy
  · exact hrel i x u hx hu
  · exact .d _ _ (px hs hd (hrel i x u hx hu))
theorem t4 {a b : ByteArray} : a.toList = b.toList ↔ a = b := by
  rw [ByteArray.toList_eq, ByteArray.toList_eq]
  constructor
  · intro h
    have : a.data = b.data := Array.toList_inj.1 h
    cases a; cases b; simp at this; subst this; rfl
  · rintro rfl; rfl
theorem zB {f : Nat} {cs : List V} {ds : List D} (h : eA σ cs ds) : d8 σ (.func f cs) (.func f ds) := .func h.all.1 h.all.2
theorem eA.c {v : V} {d : D} {l : List V} {r : List D} (h : d8 σ v d) (h' : eA σ l r) : eA σ (v :: l) (d :: r) := ⟨h, h'⟩
theorem eA.nil0 : eA σ [] [] := trivial
theorem aw.c {ρ : Nat → Nat} {n0 : Nat} {v u : V} {l r : List V} (h : VN ρ n0 v u) (h' : aw ρ n0 l r) : aw ρ n0 (v :: l) (u :: r) := ⟨h, h'⟩
theorem aw.nil0 {ρ : Nat → Nat} {n0 : Nat} : aw ρ n0 [] [] := trivial
theorem SN.c {ρ : Nat → Nat} {n0 i : Nat} {b b' : aS} {l : List (Nat × aS)} (hi : i < n0) (hb : σ (ρ i) = some b') (h : BN ρ n0 b' b) (h' : SN ρ n0 σ l) : SN ρ n0 σ ((i, b) :: l) := ⟨⟨hi, b', hb, h⟩, h'⟩
theorem SN.nil0 {ρ : Nat → Nat} {n0 : Nat} : SN ρ n0 σ [] := trivial
theorem bU {m i : Nat} {b : aS} {l : List (Nat × aS)} (h : i < m) (h' : ∀ q ∈ l, q.1 < m) : ∀ q ∈ (i, b) :: l, q.1 < m := by
  intro q hq
  rcases List.mem_cons.1 hq with rfl | hq
  · exact h
  · exact h' q hq
theorem fE {m : Nat} : ∀ q ∈ ([] : List (Nat × aS)), q.1 < m := by intro q hq; cases hq
end
end Go.AM
