import Derived.Test.YtfjelgjfbjjopaaDoorAmN5
import Derived.Laws.Strings
set_option linter.unusedVariables false
set_option linter.unusedSectionVars false
set_option linter.unusedSimpArgs false
namespace Go.AM
open Go Go.RowKit
variable [Glob]
section
variable {P : Program} {N na : Nat} {A : Nat → Nat → Prop} {μ μ' : Nat → Option b5} {T T' : Nat → V} {σ σ' : aV} {w w' : World} {a : Act} {n n' : Nat} {l : List ce} {dst : Option Nat} {op : bU} {K : S → Prop}
theorem cG {α β : Type} {o : Option α} {g : α → β} {x : β} (h : o.map g = some x) : ∃ y, o = some y ∧ g y = x := by
  cases o with
  | none => cases h
  | some y => exact ⟨y, rfl, ca h⟩
theorem BN.vars {ρ : Nat → Nat} {n0 : Nat} {vs us : List V} (h : aE ρ n0 vs us) : BN ρ n0 (.var vs) (.var us) := .var vs us h.all.1 h.all.2
theorem VN.aggs {ρ : Nat → Nat} {n0 : Nat} {vs us : List V} (h : aE ρ n0 vs us) : VN ρ n0 (.agg vs) (.agg us) := .agg vs us h.all.1 h.all.2
theorem gT {s : S} (t : Nat) (m : Bool) (k : Option Nat) (h : s.T t = .d .nils) : b6 na s ⟨aq s.T t (.loc s.n 0 0), aq s.σ s.n (some (.lst m k [])), s.n + 1⟩ := by
  refine b6.nil _ m k fun i => ?_
  by_cases e : i = t
  · subst e; exact .inr ⟨bY _ _ _, h⟩
  · exact .inl (bK _ _ e)
theorem uz {cs cs' : List V} {pl : Option b5} {b o : Nat} (h : bv.ownsAt (.var cs) pl b o) : bv.ownsAt (.var cs') pl b o := by
  cases pl with
  | none => exact h
  | some p => cases p <;> exact h
theorem qD {A : Nat → Nat → Prop} {μ : Nat → Option b5} {σ : aV} {id : Nat} {cs cs' : List V} (hid : σ id = some (.var cs)) : aF A μ (aq σ id (some (.var cs'))) = aF A μ σ := by
  funext b o
  apply propext
  unfold aF dW
  refine or_congr ⟨?_, ?_⟩ Iff.rfl
  · rintro ⟨j, blk, h1, h2⟩
    by_cases e : j = id
    · subst e
      rw [bY] at h1; cases h1
      exact ⟨j, _, hid, uz h2⟩
    · rw [bK _ _ e] at h1; exact ⟨j, blk, h1, h2⟩
  · rintro ⟨j, blk, h1, h2⟩
    by_cases e : j = id
    · subst e
      rw [hid] at h1; cases h1
      exact ⟨j, _, bY _ _ _, uz h2⟩
    · exact ⟨j, blk, by rw [bK _ _ e]; exact h1, h2⟩
theorem uA {μ : Nat → Option b5} {σ : aV} {w : World} {id : Nat} {cs cs' : List V} (hid : σ id = some (.var cs)) : bE μ σ w μ (aq σ id (some (.var cs'))) w where
  os := rfl
  tape := rfl
  output := rfl
  size := Nat.le_refl _
  block _ _ _ := rfl
  cells _ c _ _ hc := ⟨c, hc, rfl, fun _ _ => rfl⟩
  own b o ho := by
    have : aF (fun _ _ => False) μ (aq σ id (some (.var cs'))) b o := .inl ho
    rw [qD hid] at this
    exact .inl (this.elim (fun h => h) (fun h => h.elim))
  ownB b ho := by
    obtain ⟨j, blk, k, h1, h2⟩ := ho
    by_cases e : j = id
    · subst e; exact .inl ⟨j, _, k, hid, h2⟩
    · rw [bK _ _ e] at h1; exact .inl ⟨j, blk, k, h1, h2⟩
  grow _ _ h := h
theorem zW {s : S} (id j m : Nat) {cs : List V} {blk : bv} (hid : s.σ id = some (.var cs)) (hj : cs[j]? = some (.d .nils)) (hm : s.σ m = some blk) : b6 na s ⟨s.T, aq s.σ id (some (.var (cs.set j (.loc m 0 0)))), s.n⟩ := by
  intro N A μ a w ⟨hs, hfr⟩
  have hp := di.placed (hs.store.blks m _ hm)
  have hst : bA A μ (aq s.σ id (some (.var (cs.set j (.loc m 0 0))))) w := by
    refine hs.store.update (uA hid) id (fun q x hq h => by rwa [bK _ _ hq] at h) (fun q hq => rfl) (fun x hx => ?_) (fun _ _ _ _ _ _ _ => rfl) (fun b k' x hx hp' => ⟨fun o => hs.store.amb id _ b k' hid hp' o, fun q y k'' hq hy hq' => hq ?_⟩)
    · simp only [bY, Option.some.injEq] at hx
      subst hx
      rw [qD hid]
      obtain ⟨b, c, ty, fr, h1, h2, h3, h4, h5⟩ := hs.store.blks id _ hid
      refine ⟨b, c, ty, fr, h1, h2, h3, by simpa using h4, fun i x v hx hv => ?_⟩
      rw [List.getElem?_set] at hx
      split at hx
      · rename_i e
        subst e
        split at hx
        · cases hx
          obtain ⟨g1, g2⟩ := h5 j _ v hj hv
          refine ⟨g1, ?_⟩
          cases g2 with | d _ _ hd => cases hd; exact .loc0 _ _ _ hp
        · cases hx
      · exact h5 i x v hx hv
    · rw [bK _ _ hq] at hy
      exact hs.store.inj q id y _ b k'' k' hy hid hq' hp'
  refine ⟨μ, ⟨⟨hs.size, hs.defers, fun i => ?_, hst⟩, hfr⟩, (uA hid).ng⟩
  show be μ (aF A μ (aq s.σ id (some (.var (cs.set j (.loc m 0 0)))))) w (s.T i) _
  rw [qD hid]
  exact hs.tmps i
theorem ja {s : S} (id j : Nat) (m : Bool) (k : Option Nat) {cs : List V} (hid : s.σ id = some (.var cs)) (hj : cs[j]? = some (.d .nils)) (hlt : id ≠ s.n) : b6 na s ⟨s.T, aq (aq s.σ s.n (some (.lst m k []))) id (some (.var (cs.set j (.loc s.n 0 0)))), s.n + 1⟩ :=
  b6.trans (b6.nil s.T m k fun i => .inl rfl) (zW id j s.n (s := ⟨s.T, aq s.σ s.n (some (.lst m k [])), s.n + 1⟩) ((bK _ _ hlt).trans hid) hj (bY _ _ _))
def mD (T : Nat → V) (ts : List Nat) (v : V) : Nat → V := fun i => if ts.contains i then v else T i
theorem zX {s : S} (ts : List Nat) {id : Nat} {m : Bool} {k : Option Nat} {α : Type} {xs : List α} {e : α → D} (hid : s.σ id = some (.lst m k (xs.map e))) (h0 : ∀ t ∈ ts, ∃ len, s.T t = .loc id 0 len ∧ len = xs.length) : b6 na s ⟨mD s.T ts (.d (.vec k (xs.map e))), aq s.σ id none, s.n⟩ := by
  generalize hels : xs.map e = els at *
  have h : ∀ t ∈ ts, ∃ len, s.T t = .loc id 0 len ∧ len = els.length := fun t ht => by
    obtain ⟨len, h1, h2⟩ := h0 t ht
    exact ⟨len, h1, by rw [h2, ← hels, List.length_map]⟩
  refine b6.imm _ hid fun i => ?_
  unfold mD
  by_cases e : ts.contains i = true
  · simp only [e, if_true]
    obtain ⟨len, h1, rfl⟩ := h i (by simpa using e)
    rw [h1]
    have := gP.loc (id := id) (k := k) (els := els) 0 els.length (by omega)
    simpa using this
  · have e' : ts.contains i = false := by simpa using e
    simp only [e', Bool.false_eq_true, if_false]
    exact .refl _
theorem zY {s : S} (k : Nat) {v : V} {d : D} (hT : s.T k = v) (hv : eC s.σ v = some d) : b6 na s ⟨mD s.T [k] (.d d), s.σ, s.n⟩ := by
  intro N A μ a w ⟨hs, hfr⟩
  refine ⟨μ, ⟨⟨hs.size, hs.defers, fun i => ?_, hs.store⟩, hfr⟩, (bE.refl _ _ _).ng⟩
  unfold mD
  by_cases c : i = k
  · subst c
    have : ([i] : List Nat).contains i = true := by simp
    simp only [this, if_true]
    have h0 := hs.tmps i
    rw [hT] at h0
    exact .d _ _ (k8 hs.store hv h0)
  · have : ([k] : List Nat).contains i = false := by simpa using c
    simp only [this, Bool.false_eq_true, if_false]
    exact hs.tmps i
theorem zZ {s : S} (t : Nat) {id : Nat} {k : Option Nat} {α : Type} {xs l : List α} {e : α → D} {lo hi : Int} (hT : s.T t = .loc id lo.toNat (hi.toNat - lo.toNat)) (hid : s.σ id = some (.lst false k (xs.map e))) (hc : iD xs lo hi = some l) : b6 na s ⟨mD s.T [t] (.d (.vec k (l.map e))), s.σ, s.n⟩ := by
  refine zY t hT ?_
  unfold iD at hc
  split at hc
  · rename_i h
    cases hc
    simp only [eC, hid, List.length_map]
    rw [if_pos (by omega), List.map_take, List.map_drop]
  · cases hc
section
variable {α : Type} {e : α → D} {x y : AX} {k kb : Option Nat}
theorem z0 {β : Type} {id : Nat} {xs l : List β} {lo hi : Int} (hx : aW T x = .loc id lo.toNat (hi.toNat - lo.toNat)) (hc : iD xs lo hi = some l) : aX (.len x) (aW T) σ n = some (.d (.int .i64 l.length), σ, n) := by
  have : hi.toNat - lo.toNat = l.length := by
    unfold iD at hc
    split at hc
    · cases hc; simp; omega
    · cases hc
  simp [aX, hx, this]
theorem bt {xs : List α} (hx : aW T x = .d (.vec k (xs.map e))) : aX (.len x) (aW T) σ n = some (.d (.int .i64 xs.length), σ, n) := by simp [aX, hx]
theorem z4 {d z : D} {j : Nat} (hx : aW T x = .d (.cptr kb d j)) (hd : fY kb d j k = some z) : aX (.load k x) (aW T) σ n = some (.d z, σ, n) := by simp [aX, dE, hx, hd]
theorem qE (ds : List D) : jU (ds.map V.d) = .d (.agg ds) := by
  have : cR ((ds.map V.d).map V.toD) = some ds := by
    induction ds with
    | nil => rfl
    | cons d ds ih => simp only [List.map_cons, V.toD, kR]; rw [ih]; rfl
  simp only [jU, this]
def ki : Nat → List V → List V → List V
  | 0, [], cs => cs
  | 0, v :: vs, [] => v :: vs
  | 0, v :: vs, _ :: cs => v :: ki 0 vs cs
  | _ + 1, vs, [] => vs
  | off + 1, vs, c :: cs => c :: ki off vs cs
theorem qF : ∀ (off : Nat) (vs cs : List V), off + vs.length ≤ cs.length → ki off vs cs = cs.take off ++ vs ++ cs.drop (off + vs.length)
  | 0, [], cs, _ => by simp [ki]
  | 0, v :: vs, [], h => by simp at h
  | 0, v :: vs, c :: cs, h => by
    have := qF 0 vs cs (by simp at h ⊢; omega)
    simp [ki, this]
  | off + 1, vs, [], h => by simp at h
  | off + 1, vs, c :: cs, h => by
    have := qF off vs cs (by simp at h ⊢; omega)
    rw [show off + 1 + vs.length = (off + vs.length) + 1 by omega]
    simp [ki, this]
def oc (cells : List V) : List (Nat × Nat × V) → Option (List V)
  | [] => some cells
  | (off, size, v) :: r =>
    if v.cells.all V.one = true ∧ v.cells.length = size ∧ off + size ≤ cells.length then oc (ki off v.cells cells) r else none
theorem uB : ∀ (parts : List (Nat × Nat × V)) (cells : List V), oc cells parts = iS cells parts
  | [], _ => rfl
  | (off, size, v) :: r, cells => by
    simp only [oc, iS]
    split
    · rename_i h
      obtain ⟨_, h2, h3⟩ := h
      subst h2
      rw [qF off v.cells cells h3, uB r]
    · rfl
theorem dM {zero : List D} {parts : List (Nat × Nat × AX)} {ds : List D} (h : oc (zero.map V.d) (parts.map fun p => (p.1, p.2.1, aW T p.2.2)) = some (ds.map V.d)) : aX (.build zero parts) (aW T) σ n = some (.d (.agg ds), σ, n) := by
  rw [uB] at h
  simp only [aX, h, Option.map_some, qE]
theorem dZ {m id j : Nat} {cs : List V} {ds : List D} (hx : aW T x = .ptr id 0 j) (hid : σ id = some (.var cs)) (hl : j + m ≤ cs.length) (hs : (cs.drop j).take m = ds.map V.d) : aX (.load (some m) x) (aW T) σ n = some (.d (.agg ds), σ, n) := by
  simp only [aX, dE, hx, hid, fX, Nat.zero_add, if_pos hl, hs, qE, Option.map_some]
theorem eP {s : S} {t m id j : Nat} {cs : List V} {ds : List D} {l : List gN} {vs : List V} (hx : s.T t = .ptr id 0 j) (hid : s.σ id = some (.var cs)) (hl : j + m ≤ cs.length) (hs : (cs.drop j).take m = ds.map V.d) (hr : fy s l = some vs) : fy s (.cell t (some m) :: l) = some (.d (.agg ds) :: vs) := by
  simp only [fy, mu, dE, hx, hid, fX, Nat.zero_add, if_pos hl, hs, qE, hr]
theorem bg {s : S} {t : Nat} {v : V} {l : List gN} {vs : List V} (hx : s.T t = v) (hr : fy s l = some vs) : fy s (.t t :: l) = some (v :: vs) := by
  simp only [fy, mu, hx, hr]
theorem z5 {m : Nat} {xs : List α} {i : Int} {v : α} {kk : IntKind} {d : D} {j : Nat} (h : bo xs i = some v) (hm : xs.length = m) (hx : aW T x = .d (.cptr kb d j)) (hy : aW T y = .d (.int kk i)) : aX (.iaddrA m k x y) (aW T) σ n = some (.d (.cptr kb d (j + i.toNat * ax k)), σ, n) := by
  obtain ⟨h0, h1⟩ := qB h
  have : i < (m : Int) := by omega
  simp [aX, hx, hy, h0, this]
theorem A8.put_l {a a' : A8 α} {i : Int} {v : α} (h : a.put i v = some a') : ef a.l i v = some a'.l := by
  unfold A8.put at h
  cases hg : ef a.l i v with
  | none => rw [hg] at h; cases h
  | some xs =>
    rw [hg] at h
    obtain ⟨_, _, rfl⟩ := ob hg
    have hl : (a.l.set i.toNat v).length = 8 := by simp [A8.l]
    generalize a.l.set i.toNat v = q at h hl
    match q, hl with
    | [_, _, _, _, _, _, _, _], _ => cases h; rfl
theorem A2.put_l {a a' : A2 α} {i : Int} {v : α} (h : a.put i v = some a') : ef a.l i v = some a'.l := by
  unfold A2.put at h
  cases hg : ef a.l i v with
  | none => rw [hg] at h; cases h
  | some xs =>
    rw [hg] at h
    obtain ⟨_, _, rfl⟩ := ob hg
    have hl : (a.l.set i.toNat v).length = 2 := by simp [A2.l]
    generalize a.l.set i.toNat v = q at h hl
    match q, hl with
    | [_, _], _ => cases h; rfl
end
def RV (σ : aV) : List V → List D → Prop
  | [], [] => True
  | v :: l, d :: r => (∃ d0, gO σ v = some d0 ∧ dP d0 d) ∧ RV σ l r
  | _, _ => False
theorem RV.all {σ : aV} : ∀ {vs : List V} {ds : List D}, RV σ vs ds → ∃ ds0, cR (vs.map (gO σ)) = some ds0 ∧ ds0.length = ds.length ∧ ∀ (i : Nat) a b, ds0[i]? = some a → ds[i]? = some b → dP a b
  | [], [], _ => ⟨[], rfl, rfl, fun i a b h => by simp at h⟩
  | v :: vs, d :: ds, ⟨⟨d0, h1, h2⟩, h3⟩ => by
    obtain ⟨ds0, g1, g2, g3⟩ := RV.all h3
    refine ⟨d0 :: ds0, by simp [h1, g1], by simp [g2], fun i a b ha hb => ?_⟩
    cases i with
    | zero => simp at ha hb; subst ha; subst hb; exact h2
    | succ i => exact g3 i a b (by simpa using ha) (by simpa using hb)
  | [], _ :: _, h => h.elim
  | _ :: _, [], h => h.elim
theorem RV.d {σ : aV} {vs : List V} {d : D} {ds : List D} (h : RV σ vs ds) : RV σ (.d d :: vs) (d :: ds) := ⟨⟨d, rfl, .refl _⟩, h⟩
theorem RV.sub {σ : aV} {vs : List V} {d0 d : D} {ds : List D} (hs : dP d0 d) (h : RV σ vs ds) : RV σ (.d d0 :: vs) (d :: ds) := ⟨⟨d0, rfl, hs⟩, h⟩
theorem RV.nl {σ : aV} {vs : List V} {k : Option Nat} {ds : List D} (h : RV σ vs ds) : RV σ (.d .nils :: vs) (.vec k [] :: ds) := ⟨⟨.nils, rfl, .nils k⟩, h⟩
theorem uC {σ : aV} {id len : Nat} {m : Bool} {k : Option Nat} {els : List D} (hid : σ id = some (.lst m k els)) (hl : len = els.length) : hY σ (.loc id 0 len) = some (.vec k els) := by
  subst hl; simp [hY, hid]
theorem RV.loc {σ : aV} {vs : List V} {id len : Nat} {m : Bool} {k : Option Nat} {α : Type} {xs : List α} {e : α → D} {ds : List D} (hid : σ id = some (.lst m k (xs.map e))) (hl : len = xs.length) (h : RV σ vs ds) : RV σ (.loc id 0 len :: vs) (.vec k (xs.map e) :: ds) :=
  ⟨⟨_, uC hid (by simpa using hl), .refl _⟩, h⟩
def ex (σ : aV) : List V → List D → Prop
  | [], [] => True
  | v :: l, d :: r => (∃ d0, hY σ v = some d0 ∧ dP d0 d) ∧ ex σ l r
  | _, _ => False
theorem ex.all {σ : aV} : ∀ {vs : List V} {ds : List D}, ex σ vs ds → ∃ ds0, cR (vs.map (hY σ)) = some ds0 ∧ ds0.length = ds.length ∧ ∀ (i : Nat) a b, ds0[i]? = some a → ds[i]? = some b → dP a b
  | [], [], _ => ⟨[], rfl, rfl, fun i a b h => by simp at h⟩
  | v :: vs, d :: ds, ⟨⟨d0, h1, h2⟩, h3⟩ => by
    obtain ⟨ds0, g1, g2, g3⟩ := ex.all h3
    refine ⟨d0 :: ds0, by simp [h1, g1], by simp [g2], fun i a b ha hb => ?_⟩
    cases i with
    | zero => simp at ha hb; subst ha; subst hb; exact h2
    | succ i => exact g3 i a b (by simpa using ha) (by simpa using hb)
  | [], _ :: _, h => h.elim
  | _ :: _, [], h => h.elim
theorem ex.d {σ : aV} {vs : List V} {d : D} {ds : List D} (h : ex σ vs ds) : ex σ (.d d :: vs) (d :: ds) := ⟨⟨d, rfl, .refl _⟩, h⟩
theorem ex.nl {σ : aV} {vs : List V} {k : Option Nat} {ds : List D} (h : ex σ vs ds) : ex σ (.d .nils :: vs) (.vec k [] :: ds) := ⟨⟨.nils, rfl, .nils k⟩, h⟩
theorem ex.loc {σ : aV} {vs : List V} {id len : Nat} {m : Bool} {k : Option Nat} {α : Type} {xs : List α} {e : α → D} {ds : List D} (hid : σ id = some (.lst m k (xs.map e))) (hl : len = xs.length) (h : ex σ vs ds) : ex σ (.loc id 0 len :: vs) (.vec k (xs.map e) :: ds) :=
  ⟨⟨_, uC hid (by simpa using hl), .refl _⟩, h⟩
theorem RV.agg {σ : aV} {vs cs : List V} {es ds : List D} (hc : ex σ cs es) (h : RV σ vs ds) : RV σ (.agg cs :: vs) (.agg es :: ds) := by
  obtain ⟨es0, g1, g2, g3⟩ := hc.all
  exact ⟨⟨.agg es0, by simp [gO, g1], .agg _ _ g2 g3⟩, h⟩
def mE : List D → List D → Prop
  | [], [] => True
  | a :: l, b :: r => dP a b ∧ mE l r
  | _, _ => False
theorem mE.all : ∀ {l r : List D}, mE l r → l.length = r.length ∧ ∀ (i : Nat) a b, l[i]? = some a → r[i]? = some b → dP a b
  | [], [], _ => ⟨rfl, fun i a b h => by simp at h⟩
  | x :: l, y :: r, h => by
    obtain ⟨h1, h2⟩ := mE.all h.2
    refine ⟨by simp [h1], fun i u v hu hv => ?_⟩
    cases i with
    | zero => simp at hu hv; subst hu; subst hv; exact h.1
    | succ i => exact h2 i u v (by simpa using hu) (by simpa using hv)
  | [], _ :: _, h => h.elim
  | _ :: _, [], h => h.elim
theorem dP.aggs {l r : List D} (h : mE l r) : dP (.agg l) (.agg r) := .agg l r h.all.1 h.all.2
theorem bw {res : List gN} {e : Exit} {s' : S} {v : V} {d : D} (he : e = .normal ∨ e = .ret) (h1 : fy s' res = some [v]) (h2 : RV s'.σ [v] [d]) : FQ res d e s' := by
  obtain ⟨⟨d0, g1, g2⟩, _⟩ := h2
  refine ⟨he, [v], h1, d0, ?_, g2⟩
  cases v with
  | tup vs => simp [gO, hY] at g1
  | _ => exact g1
theorem dR {res : List gN} {e : Exit} {s' : S} {v v' : V} {vs : List V} {ds : List D} (he : e = .normal ∨ e = .ret) (h1 : fy s' res = some (v :: v' :: vs)) (h2 : RV s'.σ (v :: v' :: vs) ds) : FQ res (.tup ds) e s' := by
  obtain ⟨ds0, g1, g2, g3⟩ := h2.all
  refine ⟨he, _, h1, .tup ds0, ?_, .tup _ _ g2 g3⟩
  show mx s'.σ (md (v :: v' :: vs)) = _
  unfold md
  split
  · rename_i xs hx
    have : cR ((v :: v' :: vs).map (gO s'.σ)) = some xs := by
      have key : ∀ (l : List V) (xs : List D), cR (l.map V.toD) = some xs → cR (l.map (gO s'.σ)) = some xs := by
        intro l
        induction l with
        | nil => intro xs h; exact h
        | cons u l ih =>
          intro xs h
          cases u <;> simp [V.toD] at h
          rename_i q
          obtain ⟨ys, h1, rfl⟩ := h
          simp [gO, hY, ih ys h1]
      exact key _ _ hx
    rw [this] at g1
    cases g1
    rfl
  · simp only [mx, g1, Option.map_some]
theorem qH {vs : List V} {id len : Nat} {k : Option Nat} {α : Type} {xs : List α} {e : α → D} {ds : List D} (hid : σ id = some (.lst false k (xs.map e))) (hl : len = xs.length) (h : bb σ vs ds) : bb σ (.loc id 0 len :: vs) (.vec k (xs.map e) :: ds) := bb.lc hid (by simpa using hl) h
theorem ez {β γ : Type} {f : β → Option γ} {a : β} {x : γ} {l : List β} {r : List γ} (h : f a = some x) (h' : cR (l.map f) = some r) : cR ((a :: l).map f) = some (x :: r) := by
  simp [h, h']
theorem ie {β γ : Type} {f : β → Option γ} : cR (([] : List β).map f) = some [] := rfl
theorem eQ {id len : Nat} {k : Option Nat} {α : Type} {xs : List α} {e : α → D} (hid : σ id = some (.lst false k (xs.map e))) (hl : len = xs.length) : eC σ (.loc id 0 len) = some (.vec k (xs.map e)) := by
  subst hl
  simp only [eC, hid]
  rw [if_pos (by simp)]
  congr 2
  rw [List.drop_zero]
  exact List.take_of_length_le (by simp)
theorem kl {cs : List V} {ds : List D} (h : cR (cs.map (eC σ)) = some ds) : dO σ (.agg cs) = some (.agg ds) := by
  simp [dO, h]
theorem mF {id len : Nat} {k : Option Nat} {α : Type} {xs : List α} {e : α → D} (hid : σ id = some (.lst false k (xs.map e))) (hl : len = xs.length) : dO σ (.loc id 0 len) = some (.vec k (xs.map e)) := eQ hid hl
theorem od {parts : List AX} {m : Bool} {k : Option Nat} {ds : List D} (h : cR (parts.map fun x => dO σ (aW T x)) = some ds) (hs : ds.all (fun d => d.shape k && d.cells.all D.one) = true) : aX (.bsliceV k parts m) (aW T) σ n = some (.loc n 0 ds.length, aq σ n (some (.lst m k ds)), n + 1) := by
  simp only [aX, h, hs, if_true]
def mG (σ : aV) : List V → List V → Prop
  | [], [] => True
  | x :: l, y :: r => (x = y ∨ ∃ d, dO σ x = some d ∧ y = .d d) ∧ mG σ l r
  | _, _ => False
theorem mG.all {σ : aV} : ∀ {l r : List V}, mG σ l r → l.length = r.length ∧ ∀ (i : Nat) y, r[i]? = some y → ∃ x, l[i]? = some x ∧ (x = y ∨ ∃ d, dO σ x = some d ∧ y = .d d)
  | [], [], _ => ⟨rfl, fun i y h => by simp at h⟩
  | x :: l, y :: r, h => by
    obtain ⟨h1, h2⟩ := mG.all h.2
    refine ⟨by simp [h1], fun i z hz => ?_⟩
    cases i with
    | zero => simp at hz; subst hz; exact ⟨x, rfl, h.1⟩
    | succ i => exact h2 i z (by simpa using hz)
  | [], _ :: _, h => h.elim
  | _ :: _, [], h => h.elim
theorem cJ.sees {P : Program} {f : Nat} {vals vals' : List V} {σ σ' : aV} {n n' : Nat} {v : V} (h : e8 P f vals' σ n v σ' n') (hv : mG σ vals vals') : e8 P f vals σ n v σ' n' := by
  obtain ⟨hl, hv⟩ := hv.all
  refine ⟨h.1, fun A μ w vs hs hfr hlen hrel => h.2 A μ w vs hs hfr (by omega) fun i y u hy hu => ?_⟩
  obtain ⟨x, hx, rfl | ⟨d, hd, rfl⟩⟩ := hv i y hy
  · exact hrel i x u hx hu
  · exact .d _ _ (qe hs hd (hrel i x u hx hu))
theorem z6 {ks : List Ck} {a b : List D} {p : Bool} (h1 : a.length = ks.length) (h2 : b.length = ks.length) (h : dc ks a b = some p) : jX ks (.d (.agg a)) (.d (.agg b)) = some p := by
  simp [jX, h1, h2, h]
theorem qI {a b : ByteArray} : a.toList = b.toList ↔ a = b := by
  rw [ByteArray.toList_eq, ByteArray.toList_eq]
  constructor
  · intro h
    have : a.data = b.data := Array.toList_inj.1 h
    cases a; cases b; simp at this; subst this; rfl
  · rintro rfl; rfl
theorem z7 {f : Nat} {cs : List V} {ds : List D} (h : eO σ cs ds) : eF σ (.func f cs) (.func f ds) := .func h.all.1 h.all.2
theorem eO.c {v : V} {d : D} {l : List V} {r : List D} (h : eF σ v d) (h' : eO σ l r) : eO σ (v :: l) (d :: r) := ⟨h, h'⟩
theorem eO.nil0 : eO σ [] [] := trivial
theorem aE.c {ρ : Nat → Nat} {n0 : Nat} {v u : V} {l r : List V} (h : VN ρ n0 v u) (h' : aE ρ n0 l r) : aE ρ n0 (v :: l) (u :: r) := ⟨h, h'⟩
theorem aE.nil0 {ρ : Nat → Nat} {n0 : Nat} : aE ρ n0 [] [] := trivial
theorem SN.c {ρ : Nat → Nat} {n0 i : Nat} {b b' : bv} {l : List (Nat × bv)} (hi : i < n0) (hb : σ (ρ i) = some b') (h : BN ρ n0 b' b) (h' : SN ρ n0 σ l) : SN ρ n0 σ ((i, b) :: l) := ⟨⟨hi, b', hb, h⟩, h'⟩
theorem SN.nil0 {ρ : Nat → Nat} {n0 : Nat} : SN ρ n0 σ [] := trivial
theorem ct {m i : Nat} {b : bv} {l : List (Nat × bv)} (h : i < m) (h' : ∀ q ∈ l, q.1 < m) : ∀ q ∈ (i, b) :: l, q.1 < m := by
  intro q hq
  rcases List.mem_cons.1 hq with rfl | hq
  · exact h
  · exact h' q hq
theorem fH {m : Nat} : ∀ q ∈ ([] : List (Nat × bv)), q.1 < m := by intro q hq; cases hq
end
end Go.AM
