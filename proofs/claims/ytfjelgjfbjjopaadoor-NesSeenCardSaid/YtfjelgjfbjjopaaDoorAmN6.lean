import Derived.Test.YtfjelgjfbjjopaaDoorAmN5
import Derived.Laws.Strings
set_option linter.unusedVariables false
set_option linter.unusedSectionVars false
set_option linter.unusedSimpArgs false
namespace Go.AM
open Go Go.RowKit
variable [Glob]
section
variable {P : Program} {N na : Nat} {A : Nat → Nat → Prop} {μ μ' : Nat → Option bA} {T T' : Nat → V} {σ σ' : aB} {w w' : World} {a : Act} {n n' : Nat} {l : List bF} {dst : Option Nat} {op : bw} {K : S → Prop}
theorem dm {α β : Type} {o : Option α} {g : α → β} {x : β} (h : o.map g = some x) : ∃ y, o = some y ∧ g y = x := by
  cases o with
  | none => cases h
  | some y => exact ⟨y, rfl, cg h⟩
theorem BN.vars {ρ : Nat → Nat} {n0 : Nat} {vs us : List V} (h : ar ρ n0 vs us) : BN ρ n0 (.var vs) (.var us) := .var vs us h.all.1 h.all.2
theorem VN.aggs {ρ : Nat → Nat} {n0 : Nat} {vs us : List V} (h : ar ρ n0 vs us) : VN ρ n0 (.agg vs) (.agg us) := .agg vs us h.all.1 h.all.2
theorem iW {s : S} (t : Nat) (m : Bool) (k : Option Nat) (h : s.T t = .d .nils) : bJ na s ⟨ai s.T t (.loc s.n 0 0), ai s.σ s.n (some (.lst m k [])), s.n + 1⟩ := by
  refine bJ.nil _ m k fun i => ?_
  by_cases e : i = t
  · subst e; exact .inr ⟨bx _ _ _, h⟩
  · exact .inl (bk _ _ e)
theorem tJ {cs cs' : List V} {pl : Option bA} {b o : Nat} (h : aP.ownsAt (.var cs) pl b o) : aP.ownsAt (.var cs') pl b o := by
  cases pl with
  | none => exact h
  | some p => cases p <;> exact h
theorem pJ {A : Nat → Nat → Prop} {μ : Nat → Option bA} {σ : aB} {id : Nat} {cs cs' : List V} (hid : σ id = some (.var cs)) : au A μ (ai σ id (some (.var cs'))) = au A μ σ := by
  funext b o
  apply propext
  unfold au dw
  refine or_congr ⟨?_, ?_⟩ Iff.rfl
  · rintro ⟨j, blk, h1, h2⟩
    by_cases e : j = id
    · subst e
      rw [bx] at h1; cases h1
      exact ⟨j, _, hid, tJ h2⟩
    · rw [bk _ _ e] at h1; exact ⟨j, blk, h1, h2⟩
  · rintro ⟨j, blk, h1, h2⟩
    by_cases e : j = id
    · subst e
      rw [hid] at h1; cases h1
      exact ⟨j, _, bx _ _ _, tJ h2⟩
    · exact ⟨j, blk, by rw [bk _ _ e]; exact h1, h2⟩
theorem tK {μ : Nat → Option bA} {σ : aB} {w : World} {id : Nat} {cs cs' : List V} (hid : σ id = some (.var cs)) : aW μ σ w μ (ai σ id (some (.var cs'))) w where
  os := rfl
  tape := rfl
  output := rfl
  size := Nat.le_refl _
  block _ _ _ := rfl
  cells _ c _ _ hc := ⟨c, hc, rfl, fun _ _ => rfl⟩
  own b o ho := by
    have : au (fun _ _ => False) μ (ai σ id (some (.var cs'))) b o := .inl ho
    rw [pJ hid] at this
    exact .inl (this.elim (fun h => h) (fun h => h.elim))
  ownB b ho := by
    obtain ⟨j, blk, k, h1, h2⟩ := ho
    by_cases e : j = id
    · subst e; exact .inl ⟨j, _, k, hid, h2⟩
    · rw [bk _ _ e] at h1; exact .inl ⟨j, blk, k, h1, h2⟩
  grow _ _ h := h
theorem zk {s : S} (id j m : Nat) {cs : List V} {blk : aP} (hid : s.σ id = some (.var cs)) (hj : cs[j]? = some (.d .nils)) (hm : s.σ m = some blk) : bJ na s ⟨s.T, ai s.σ id (some (.var (cs.set j (.loc m 0 0)))), s.n⟩ := by
  intro N A μ a w ⟨hs, hfr⟩
  have hp := cG.placed (hs.store.blks m _ hm)
  have hst : aQ A μ (ai s.σ id (some (.var (cs.set j (.loc m 0 0))))) w := by
    refine hs.store.update (tK hid) id (fun q x hq h => by rwa [bk _ _ hq] at h) (fun q hq => rfl) (fun x hx => ?_) (fun _ _ _ _ _ _ _ => rfl) (fun b k' x hx hp' => ⟨fun o => hs.store.amb id _ b k' hid hp' o, fun q y k'' hq hy hq' => hq ?_⟩)
    · simp only [bx, Option.some.injEq] at hx
      subst hx
      rw [pJ hid]
      obtain ⟨b, c, ty, fr, h1, h2, h3, h4, h5⟩ := hs.store.blks id _ hid
      refine ⟨b, c, ty, fr, h1, h2, h3, by simpa using h4, fun i x v hx hv => ?_⟩
      rw [List.getElem?_set] at hx
      split at hx
      · rename_i e
        subst e
        split at hx
        · cases hx
          obtain ⟨g1, g2⟩ := h5 j _ v hj hv
          refine ⟨g1, ?_⟩
          cases g2 with | d _ _ hd => cases hd; exact .loc0 _ _ _ hp
        · cases hx
      · exact h5 i x v hx hv
    · rw [bk _ _ hq] at hy
      exact hs.store.inj q id y _ b k'' k' hy hid hq' hp'
  refine ⟨μ, ⟨⟨hs.size, hs.defers, fun i => ?_, hst⟩, hfr⟩, (tK hid).ng⟩
  show aJ μ (au A μ (ai s.σ id (some (.var (cs.set j (.loc m 0 0)))))) w (s.T i) _
  rw [pJ hid]
  exact hs.tmps i
theorem jC {s : S} (id j : Nat) (m : Bool) (k : Option Nat) {cs : List V} (hid : s.σ id = some (.var cs)) (hj : cs[j]? = some (.d .nils)) (hlt : id ≠ s.n) : bJ na s ⟨s.T, ai (ai s.σ s.n (some (.lst m k []))) id (some (.var (cs.set j (.loc s.n 0 0)))), s.n + 1⟩ :=
  bJ.trans (bJ.nil s.T m k fun i => .inl rfl) (zk id j s.n (s := ⟨s.T, ai s.σ s.n (some (.lst m k [])), s.n + 1⟩) ((bk _ _ hlt).trans hid) hj (bx _ _ _))
def pK (T : Nat → V) (ts : List Nat) (v : V) : Nat → V := fun i => if ts.contains i then v else T i
theorem zl {s : S} (k : Nat) {v : V} {d : D} (hT : s.T k = v) (hv : dM s.σ v = some d) : bJ na s ⟨pK s.T [k] (.d d), s.σ, s.n⟩ := by
  intro N A μ a w ⟨hs, hfr⟩
  refine ⟨μ, ⟨⟨hs.size, hs.defers, fun i => ?_, hs.store⟩, hfr⟩, (aW.refl _ _ _).ng⟩
  unfold pK
  by_cases c : i = k
  · subst c
    have : ([i] : List Nat).contains i = true := by simp
    simp only [this, if_true]
    have h0 := hs.tmps i
    rw [hT] at h0
    exact .d _ _ (kh hs.store hv h0)
  · have : ([k] : List Nat).contains i = false := by simpa using c
    simp only [this, Bool.false_eq_true, if_false]
    exact hs.tmps i
theorem zm {s : S} (t : Nat) {id : Nat} {k : Option Nat} {α : Type} {xs l : List α} {e : α → D} {lo hi : Int} (hT : s.T t = .loc id lo.toNat (hi.toNat - lo.toNat)) (hid : s.σ id = some (.lst false k (xs.map e))) (hc : gY xs lo hi = some l) : bJ na s ⟨pK s.T [t] (.d (.vec k (l.map e))), s.σ, s.n⟩ := by
  refine zl t hT ?_
  unfold gY at hc
  split at hc
  · rename_i h
    cases hc
    simp only [dM, hid, List.length_map]
    rw [if_pos (by omega), List.map_take, List.map_drop]
  · cases hc
section
variable {α : Type} {e : α → D} {x y : AX} {k kb : Option Nat}
theorem zn {β : Type} {id : Nat} {xs l : List β} {lo hi : Int} (hx : aE T x = .loc id lo.toNat (hi.toNat - lo.toNat)) (hc : gY xs lo hi = some l) : aD (.len x) (aE T) σ n = some (.d (.int .i64 l.length), σ, n) := by
  have : hi.toNat - lo.toNat = l.length := by
    unfold gY at hc
    split at hc
    · cases hc; simp; omega
    · cases hc
  simp [aD, hx, this]
theorem b8 {xs : List α} (hx : aE T x = .d (.vec k (xs.map e))) : aD (.len x) (aE T) σ n = some (.d (.int .i64 xs.length), σ, n) := by simp [aD, hx]
theorem tL {d z : D} {j : Nat} (hx : aE T x = .d (.cptr kb d j)) (hd : ff kb d j k = some z) : aD (.load k x) (aE T) σ n = some (.d z, σ, n) := by simp [aD, da, hx, hd]
theorem zo {d z : D} {j : Nat} (hx : aE T x = .d (.cptr kb d j)) (hd : ff kb d j k = some z) : aD (.ldI k x) (aE T) σ n = some (.d z, σ, n) := by simp [aD, hx, hd]
theorem pL (ds : List D) : jm (ds.map V.d) = .d (.agg ds) := by
  have : cn ((ds.map V.d).map V.toD) = some ds := by
    induction ds with
    | nil => rfl
    | cons d ds ih => simp only [List.map_cons, V.toD, j5]; rw [ih]; rfl
  simp only [jm, this]
def jD : Nat → List V → List V → List V
  | 0, [], cs => cs
  | 0, v :: vs, [] => v :: vs
  | 0, v :: vs, _ :: cs => v :: jD 0 vs cs
  | _ + 1, vs, [] => vs
  | off + 1, vs, c :: cs => c :: jD off vs cs
theorem pM : ∀ (off : Nat) (vs cs : List V), off + vs.length ≤ cs.length → jD off vs cs = cs.take off ++ vs ++ cs.drop (off + vs.length)
  | 0, [], cs, _ => by simp [jD]
  | 0, v :: vs, [], h => by simp at h
  | 0, v :: vs, c :: cs, h => by
    have := pM 0 vs cs (by simp at h ⊢; omega)
    simp [jD, this]
  | off + 1, vs, [], h => by simp at h
  | off + 1, vs, c :: cs, h => by
    have := pM off vs cs (by simp at h ⊢; omega)
    rw [show off + 1 + vs.length = (off + vs.length) + 1 by omega]
    simp [jD, this]
def nj (cells : List V) : List (Nat × Nat × V) → Option (List V)
  | [] => some cells
  | (off, size, v) :: r =>
    if v.cells.all V.one = true ∧ v.cells.length = size ∧ off + size ≤ cells.length then nj (jD off v.cells cells) r else none
theorem tM : ∀ (parts : List (Nat × Nat × V)) (cells : List V), nj cells parts = ig cells parts
  | [], _ => rfl
  | (off, size, v) :: r, cells => by
    simp only [nj, ig]
    split
    · rename_i h
      obtain ⟨_, h2, h3⟩ := h
      subst h2
      rw [pM off v.cells cells h3, tM r]
    · rfl
theorem ez {zero : List D} {parts : List (Nat × Nat × AX)} {ds : List D} (h : nj (zero.map V.d) (parts.map fun p => (p.1, p.2.1, aE T p.2.2)) = some (ds.map V.d)) : aD (.build zero parts) (aE T) σ n = some (.d (.agg ds), σ, n) := by
  rw [tM] at h
  simp only [aD, h, Option.map_some, pL]
theorem dZ {m id j : Nat} {cs : List V} {ds : List D} (hx : aE T x = .ptr id 0 j) (hid : σ id = some (.var cs)) (hl : j + m ≤ cs.length) (hs : (cs.drop j).take m = ds.map V.d) : aD (.load (some m) x) (aE T) σ n = some (.d (.agg ds), σ, n) := by
  simp only [aD, da, hx, hid, fz, Nat.zero_add, if_pos hl, hs, pL, Option.map_some]
theorem iw {s : S} {t m id j : Nat} {cs : List V} {ds : List D} {l : List gl} {vs : List V} (hx : s.T t = .ptr id 0 j) (hid : s.σ id = some (.var cs)) (hl : j + m ≤ cs.length) (hs : (cs.drop j).take m = ds.map V.d) (hr : eS s l = some vs) : eS s (.cell t (some m) :: l) = some (.d (.agg ds) :: vs) := by
  simp only [eS, lC, da, hx, hid, fz, Nat.zero_add, if_pos hl, hs, pL, hr]
theorem bp {s : S} {t : Nat} {v : V} {l : List gl} {vs : List V} (hx : s.T t = v) (hr : eS s l = some vs) : eS s (.t t :: l) = some (v :: vs) := by
  simp only [eS, lC, hx, hr]
theorem pN {m : Nat} {xs : List α} {i : Int} {v : α} {kk : IntKind} {d : D} {j : Nat} (h : aL xs i = some v) (hm : xs.length = m) (hx : aE T x = .d (.cptr kb d j)) (hy : aE T y = .d (.int kk i)) : aD (.iaddrA m k x y) (aE T) σ n = some (.d (.cptr kb d (j + i.toNat * am k)), σ, n) := by
  obtain ⟨h0, h1⟩ := pH h
  have : i < (m : Int) := by omega
  simp [aD, hx, hy, h0, this]
theorem A8.put_l {a a' : A8 α} {i : Int} {v : α} (h : a.put i v = some a') : dD a.l i v = some a'.l := by
  unfold A8.put at h
  cases hg : dD a.l i v with
  | none => rw [hg] at h; cases h
  | some xs =>
    rw [hg] at h
    obtain ⟨_, _, rfl⟩ := nf hg
    have hl : (a.l.set i.toNat v).length = 8 := by simp [A8.l]
    generalize a.l.set i.toNat v = q at h hl
    match q, hl with
    | [_, _, _, _, _, _, _, _], _ => cases h; rfl
theorem A2.put_l {a a' : A2 α} {i : Int} {v : α} (h : a.put i v = some a') : dD a.l i v = some a'.l := by
  unfold A2.put at h
  cases hg : dD a.l i v with
  | none => rw [hg] at h; cases h
  | some xs =>
    rw [hg] at h
    obtain ⟨_, _, rfl⟩ := nf hg
    have hl : (a.l.set i.toNat v).length = 2 := by simp [A2.l]
    generalize a.l.set i.toNat v = q at h hl
    match q, hl with
    | [_, _], _ => cases h; rfl
end
def RV (σ : aB) : List V → List D → Prop
  | [], [] => True
  | v :: l, d :: r => (∃ d0, gm σ v = some d0 ∧ dC d0 d) ∧ RV σ l r
  | _, _ => False
theorem RV.all {σ : aB} : ∀ {vs : List V} {ds : List D}, RV σ vs ds → ∃ ds0, cn (vs.map (gm σ)) = some ds0 ∧ ds0.length = ds.length ∧ ∀ (i : Nat) a b, ds0[i]? = some a → ds[i]? = some b → dC a b
  | [], [], _ => ⟨[], rfl, rfl, fun i a b h => by simp at h⟩
  | v :: vs, d :: ds, ⟨⟨d0, h1, h2⟩, h3⟩ => by
    obtain ⟨ds0, g1, g2, g3⟩ := RV.all h3
    refine ⟨d0 :: ds0, by simp [h1, g1], by simp [g2], fun i a b ha hb => ?_⟩
    cases i with
    | zero => simp at ha hb; subst ha; subst hb; exact h2
    | succ i => exact g3 i a b (by simpa using ha) (by simpa using hb)
  | [], _ :: _, h => h.elim
  | _ :: _, [], h => h.elim
theorem RV.d {σ : aB} {vs : List V} {d : D} {ds : List D} (h : RV σ vs ds) : RV σ (.d d :: vs) (d :: ds) := ⟨⟨d, rfl, .refl _⟩, h⟩
theorem RV.sub {σ : aB} {vs : List V} {d0 d : D} {ds : List D} (hs : dC d0 d) (h : RV σ vs ds) : RV σ (.d d0 :: vs) (d :: ds) := ⟨⟨d0, rfl, hs⟩, h⟩
theorem RV.nl {σ : aB} {vs : List V} {k : Option Nat} {ds : List D} (h : RV σ vs ds) : RV σ (.d .nils :: vs) (.vec k [] :: ds) := ⟨⟨.nils, rfl, .nils k⟩, h⟩
theorem tN {σ : aB} {id len : Nat} {m : Bool} {k : Option Nat} {els : List D} (hid : σ id = some (.lst m k els)) (hl : len = els.length) : gH σ (.loc id 0 len) = some (.vec k els) := by
  subst hl; simp [gH, hid]
theorem RV.loc {σ : aB} {vs : List V} {id len : Nat} {m : Bool} {k : Option Nat} {α : Type} {xs : List α} {e : α → D} {ds : List D} (hid : σ id = some (.lst m k (xs.map e))) (hl : len = xs.length) (h : RV σ vs ds) : RV σ (.loc id 0 len :: vs) (.vec k (xs.map e) :: ds) :=
  ⟨⟨_, tN hid (by simpa using hl), .refl _⟩, h⟩
def eA (σ : aB) : List V → List D → Prop
  | [], [] => True
  | v :: l, d :: r => (∃ d0, gH σ v = some d0 ∧ dC d0 d) ∧ eA σ l r
  | _, _ => False
theorem eA.all {σ : aB} : ∀ {vs : List V} {ds : List D}, eA σ vs ds → ∃ ds0, cn (vs.map (gH σ)) = some ds0 ∧ ds0.length = ds.length ∧ ∀ (i : Nat) a b, ds0[i]? = some a → ds[i]? = some b → dC a b
  | [], [], _ => ⟨[], rfl, rfl, fun i a b h => by simp at h⟩
  | v :: vs, d :: ds, ⟨⟨d0, h1, h2⟩, h3⟩ => by
    obtain ⟨ds0, g1, g2, g3⟩ := eA.all h3
    refine ⟨d0 :: ds0, by simp [h1, g1], by simp [g2], fun i a b ha hb => ?_⟩
    cases i with
    | zero => simp at ha hb; subst ha; subst hb; exact h2
    | succ i => exact g3 i a b (by simpa using ha) (by simpa using hb)
  | [], _ :: _, h => h.elim
  | _ :: _, [], h => h.elim
theorem eA.d {σ : aB} {vs : List V} {d : D} {ds : List D} (h : eA σ vs ds) : eA σ (.d d :: vs) (d :: ds) := ⟨⟨d, rfl, .refl _⟩, h⟩
theorem eA.nl {σ : aB} {vs : List V} {k : Option Nat} {ds : List D} (h : eA σ vs ds) : eA σ (.d .nils :: vs) (.vec k [] :: ds) := ⟨⟨.nils, rfl, .nils k⟩, h⟩
theorem eA.loc {σ : aB} {vs : List V} {id len : Nat} {m : Bool} {k : Option Nat} {α : Type} {xs : List α} {e : α → D} {ds : List D} (hid : σ id = some (.lst m k (xs.map e))) (hl : len = xs.length) (h : eA σ vs ds) : eA σ (.loc id 0 len :: vs) (.vec k (xs.map e) :: ds) :=
  ⟨⟨_, tN hid (by simpa using hl), .refl _⟩, h⟩
theorem RV.agg {σ : aB} {vs cs : List V} {es ds : List D} (hc : eA σ cs es) (h : RV σ vs ds) : RV σ (.agg cs :: vs) (.agg es :: ds) := by
  obtain ⟨es0, g1, g2, g3⟩ := hc.all
  exact ⟨⟨.agg es0, by simp [gm, g1], .agg _ _ g2 g3⟩, h⟩
def lL : List D → List D → Prop
  | [], [] => True
  | a :: l, b :: r => dC a b ∧ lL l r
  | _, _ => False
theorem lL.all : ∀ {l r : List D}, lL l r → l.length = r.length ∧ ∀ (i : Nat) a b, l[i]? = some a → r[i]? = some b → dC a b
  | [], [], _ => ⟨rfl, fun i a b h => by simp at h⟩
  | x :: l, y :: r, h => by
    obtain ⟨h1, h2⟩ := lL.all h.2
    refine ⟨by simp [h1], fun i u v hu hv => ?_⟩
    cases i with
    | zero => simp at hu hv; subst hu; subst hv; exact h.1
    | succ i => exact h2 i u v (by simpa using hu) (by simpa using hv)
  | [], _ :: _, h => h.elim
  | _ :: _, [], h => h.elim
theorem dC.aggs {l r : List D} (h : lL l r) : dC (.agg l) (.agg r) := .agg l r h.all.1 h.all.2
theorem bC {res : List gl} {e : Exit} {s' : S} {v : V} {d : D} (he : e = .normal ∨ e = .ret) (h1 : eS s' res = some [v]) (h2 : RV s'.σ [v] [d]) : FQ res d e s' := by
  obtain ⟨⟨d0, g1, g2⟩, _⟩ := h2
  refine ⟨he, [v], h1, d0, ?_, g2⟩
  cases v with
  | tup vs => simp [gm, gH] at g1
  | _ => exact g1
theorem fq {res : List gl} {e : Exit} {s' : S} {v v' : V} {vs : List V} {ds : List D} (he : e = .normal ∨ e = .ret) (h1 : eS s' res = some (v :: v' :: vs)) (h2 : RV s'.σ (v :: v' :: vs) ds) : FQ res (.tup ds) e s' := by
  obtain ⟨ds0, g1, g2, g3⟩ := h2.all
  refine ⟨he, _, h1, .tup ds0, ?_, .tup _ _ g2 g3⟩
  show lE s'.σ (la (v :: v' :: vs)) = _
  unfold la
  split
  · rename_i xs hx
    have : cn ((v :: v' :: vs).map (gm s'.σ)) = some xs := by
      have key : ∀ (l : List V) (xs : List D), cn (l.map V.toD) = some xs → cn (l.map (gm s'.σ)) = some xs := by
        intro l
        induction l with
        | nil => intro xs h; exact h
        | cons u l ih =>
          intro xs h
          cases u <;> simp [V.toD] at h
          rename_i q
          obtain ⟨ys, h1, rfl⟩ := h
          simp [gm, gH, ih ys h1]
      exact key _ _ hx
    rw [this] at g1
    cases g1
    rfl
  · simp only [lE, g1, Option.map_some]
theorem zp {vs : List V} {id len : Nat} {k : Option Nat} {α : Type} {xs : List α} {e : α → D} {ds : List D} (hid : σ id = some (.lst false k (xs.map e))) (hl : len = xs.length) (h : aN σ vs ds) : aN σ (.loc id 0 len :: vs) (.vec k (xs.map e) :: ds) := aN.lc hid (by simpa using hl) h
theorem fT {β γ : Type} {f : β → Option γ} {a : β} {x : γ} {l : List β} {r : List γ} (h : f a = some x) (h' : cn (l.map f) = some r) : cn ((a :: l).map f) = some (x :: r) := by
  simp [h, h']
theorem kv {β γ : Type} {f : β → Option γ} : cn (([] : List β).map f) = some [] := rfl
theorem gv {id len : Nat} {k : Option Nat} {α : Type} {xs : List α} {e : α → D} (hid : σ id = some (.lst false k (xs.map e))) (hl : len = xs.length) : dM σ (.loc id 0 len) = some (.vec k (xs.map e)) := by
  subst hl
  simp only [dM, hid]
  rw [if_pos (by simp)]
  congr 2
  rw [List.drop_zero]
  exact List.take_of_length_le (by simp)
theorem nk {cs : List V} {ds : List D} (h : cn (cs.map (dM σ)) = some ds) : dx σ (.agg cs) = some (.agg ds) := by
  simp [dx, h]
theorem pO {id len : Nat} {k : Option Nat} {α : Type} {xs : List α} {e : α → D} (hid : σ id = some (.lst false k (xs.map e))) (hl : len = xs.length) : dx σ (.loc id 0 len) = some (.vec k (xs.map e)) := gv hid hl
theorem tO {parts : List AX} {m : Bool} {k : Option Nat} {ds : List D} (h : cn (parts.map fun x => dx σ (aE T x)) = some ds) (hs : ds.all (fun d => d.shape k && d.cells.all D.one) = true) : aD (.bsliceV k parts m) (aE T) σ n = some (.loc n 0 ds.length, ai σ n (some (.lst m k ds)), n + 1) := by
  simp only [aD, h, hs, if_true]
def lM (σ : aB) : List V → List V → Prop
  | [], [] => True
  | x :: l, y :: r => (x = y ∨ ∃ d, dx σ x = some d ∧ y = .d d) ∧ lM σ l r
  | _, _ => False
theorem lM.all {σ : aB} : ∀ {l r : List V}, lM σ l r → l.length = r.length ∧ ∀ (i : Nat) y, r[i]? = some y → ∃ x, l[i]? = some x ∧ (x = y ∨ ∃ d, dx σ x = some d ∧ y = .d d)
  | [], [], _ => ⟨rfl, fun i y h => by simp at h⟩
  | x :: l, y :: r, h => by
    obtain ⟨h1, h2⟩ := lM.all h.2
    refine ⟨by simp [h1], fun i z hz => ?_⟩
    cases i with
    | zero => simp at hz; subst hz; exact ⟨x, rfl, h.1⟩
    | succ i => exact h2 i z (by simpa using hz)
  | [], _ :: _, h => h.elim
  | _ :: _, [], h => h.elim
theorem bZ.sees {P : Program} {f : Nat} {vals vals' : List V} {σ σ' : aB} {n n' : Nat} {v : V} (h : ew P f vals' σ n v σ' n') (hv : lM σ vals vals') : ew P f vals σ n v σ' n' := by
  obtain ⟨hl, hv⟩ := hv.all
  refine ⟨h.1, fun A μ w vs hs hfr hlen hrel => h.2 A μ w vs hs hfr (by omega) fun i y u hy hu => ?_⟩
  obtain ⟨x, hx, rfl | ⟨d, hd, rfl⟩⟩ := hv i y hy
  · exact hrel i x u hx hu
  · exact .d _ _ (pg hs hd (hrel i x u hx hu))
theorem tP {a b : ByteArray} : a.toList = b.toList ↔ a = b := by
  rw [ByteArray.toList_eq, ByteArray.toList_eq]
  constructor
  · intro h
    have : a.data = b.data := Array.toList_inj.1 h
    cases a; cases b; simp at this; subst this; rfl
  · rintro rfl; rfl
theorem zq {f : Nat} {cs : List V} {ds : List D} (h : dY σ cs ds) : dP σ (.func f cs) (.func f ds) := .func h.all.1 h.all.2
theorem dY.c {v : V} {d : D} {l : List V} {r : List D} (h : dP σ v d) (h' : dY σ l r) : dY σ (v :: l) (d :: r) := ⟨h, h'⟩
theorem dY.nil0 : dY σ [] [] := trivial
theorem ar.c {ρ : Nat → Nat} {n0 : Nat} {v u : V} {l r : List V} (h : VN ρ n0 v u) (h' : ar ρ n0 l r) : ar ρ n0 (v :: l) (u :: r) := ⟨h, h'⟩
theorem ar.nil0 {ρ : Nat → Nat} {n0 : Nat} : ar ρ n0 [] [] := trivial
theorem SN.c {ρ : Nat → Nat} {n0 i : Nat} {b b' : aP} {l : List (Nat × aP)} (hi : i < n0) (hb : σ (ρ i) = some b') (h : BN ρ n0 b' b) (h' : SN ρ n0 σ l) : SN ρ n0 σ ((i, b) :: l) := ⟨⟨hi, b', hb, h⟩, h'⟩
theorem SN.nil0 {ρ : Nat → Nat} {n0 : Nat} : SN ρ n0 σ [] := trivial
theorem bT {m i : Nat} {b : aP} {l : List (Nat × aP)} (h : i < m) (h' : ∀ q ∈ l, q.1 < m) : ∀ q ∈ (i, b) :: l, q.1 < m := by
  intro q hq
  rcases List.mem_cons.1 hq with rfl | hq
  · exact h
  · exact h' q hq
theorem ft {m : Nat} : ∀ q ∈ ([] : List (Nat × aP)), q.1 < m := by intro q hq; cases hq
end
end Go.AM
