import Derived.Test.YtfjelgjfbjjopaaDoorNkE
set_option linter.unusedVariables false
set_option linter.unusedSimpArgs false
namespace Go.AM
open Go Go.RowKit Go.Proofs
def DS : bI :=
 (.seq (.ops false [
 oo 9 (.bin .lss (.t 8) (.t 7))])
 (.seq (.cond (.t 9)
 (.skip)
 (.exit 0))
 (.seq (.block 1 (.seq (.ops false [
 oo 10 (.mov (.t 8)),
 oo 5 (.mov (.t 10))])
 (.seq (.ops false [
 oo 11 (.mov (.t 1)),
 oo 12 (.mov (.t 0)),
 oo 13 (.mov (.t 5)),
 oo 14 (.iaddr none (.t 12) (.t 13)),
 oo 15 (.load none (.t 14)),
 oo 16 (.callv true (.t 11) [(.t 15)])])
 (.cond (.t 16)
 (.seq (.ops false [
 oo 17 (.mov (.t 5)),
 oo 4 (.mov (.t 17))])
 (.ret))
 (.skip)))))
 (.ops false [
 oo 18 (.bin .add (.t 8) (ci 1)),
 oo 8 (.mov (.t 18))]))))
def DT : bG := .mk 19
 (.seq (.ops false [
 oo 4 (.mov (ci 0))])
 (.seq (.seq (.ops false [
 oo 6 (.mov (.t 0)),
 oo 7 (.len (.t 6)),
 oo 8 (.mov (ci 0))])
 (.block 0 (.loop DS)))
 (.seq (.ops false [
 oo 4 (.mov (ci (-1)))])
 (.ret))))
 [.t 4]
set_option maxRecDepth 100000 in
theorem DU : gV Tryd.prog 72 DT = true := by kernel_rfl
attribute [local irreducible] ba cx
theorem DV {τ : Type} {bl : τ → List (Nat × aP)} {n0 : Nat} (hdom : ∀ s, (bl s).map (·.1) = List.range n0) {a0 : List Int} {f : Int → τ → Option (Bool × τ)} {g : Nat} {caps : List V}
    (hf : ∀ x s r, f x s = some r → ew Tryd.prog g (.d (.int .u64 x) :: caps) (ag (bl s)) n0 (vb r.1) (ag (bl r.2)) n0) {s : τ} {r : Int × τ} (h : nY a0 f s = some r) :
    bZ Tryd.prog 72 [bB a0, .func g caps] (ag (bl s)) n0 (vi r.1) (ag (bl r.2)) n0 := by
 refine bZ.introN (bl := bl s) (bl' := bl r.2) DU (show 2 ≤ 19 by decide) (hdom s) ?_
 refine dl (s0 := ⟨tab [(0, bB a0), (1, .func g caps)], ag (bl s), n0⟩) (bJ.slots _ (dR.of rfl)) ?_
 refine aI ⟨tab [(0, bB a0), (1, .func g caps)], ag (bl s), n0⟩ ?_ ?_
 ·
  refine q1 _ ?_
  exact ba.nil' (bJ.slots _ (dR.of rfl))
 refine aF ?_
 refine aI ⟨tab [(0, bB a0), (1, .func g caps), (7, vi (a0.length : Int)), (8, vi 0)], ag (bl s), n0⟩ ?_ ?_
 ·
  refine q1 _ ?_
  refine step (v := vi (a0.length : Int)) (b8 (xs := a0) (e := (D.int .u64)) rfl) ?_
  refine q1 _ ?_
  exact ba.nil' (bJ.slots _ (dR.of rfl))
 obtain ⟨q10, hl, h⟩ := al h
 refine bH ?_
 refine ey (cT (a0.length : Int)) (fun (i1 : Int) (qq : τ) => ⟨tab [(0, bB a0), (1, .func g caps), (7, vi (a0.length : Int)), (8, vi i1)], ag (bl qq), n0⟩) 0 (fun (qq : τ) => ⟨tab [], ag (bl qq), n0⟩) bM cU (r := r) hl (by unfold bM; omega) ?_ ?_ ?_ ?_
 ·
  rintro i1 qs xr6 hinv4 hgo3 h
  show bD _ _ _ _ _ ⟨tab [(0, bB a0), (1, .func g caps), (7, vi (a0.length : Int)), (8, vi i1)], ag (bl qs), n0⟩
  have hc5 : decide (i1 < (a0.length : Int)) = true := decide_eq_true hgo3
  refine aI ⟨tab [(0, bB a0), (1, .func g caps), (7, vi (a0.length : Int)), (8, vi i1), (9, vb (decide (i1 < (a0.length : Int))))], ag (bl qs), n0⟩ ?_ ?_
  ·
   refine q1 _ ?_
   exact ba.nil' (bJ.slots _ (dR.of rfl))
  refine cZ 7 rfl fun hB2 => ?_
  refine aF ?_
  refine be (t := decide (i1 < (a0.length : Int))) rfl hc5 ?_
  refine bm ?_
  refine aF ?_
  refine bH ?_
  refine aI ⟨tab [(0, bB a0), (1, .func g caps), (5, vi i1), (7, vi (a0.length : Int)), (8, vi i1)], ag (bl qs), n0⟩ ?_ ?_
  ·
   iterate 2 refine q1 _ ?_
   exact ba.nil' (bJ.slots _ (dR.of rfl))
  unfold nX at h
  obtain ⟨x7, hx7, h⟩ := al h
  obtain ⟨x8, hx8, h⟩ := al h
  refine aI ⟨tab [(0, bB a0), (1, .func g caps), (5, vi i1), (7, vi (a0.length : Int)), (8, vi i1), (16, vb x8.1)], ag (bl x8.2), n0⟩ ?_ ?_
  ·
   iterate 3 refine q1 _ ?_
   refine step (v := .d (.cptr none (.int .u64 x7) 0)) (cz (xs := a0) (e := (D.int .u64)) hx7 rfl rfl) ?_
   refine q1 _ ?_
   refine mx (v := vb x8.1) (σ' := ag (bl x8.2)) (n' := n0) rfl (hf _ _ _ hx8) (Nat.le_refl _) ?_
   exact ba.nil' (bJ.slots _ (dR.of rfl))
  by_cases hc9 : x8.1 = true
  ·
   replace h := aT hc9 h
   refine be (t := x8.1) rfl hc9 ?_
   refine aI ⟨tab [(4, vi i1)], ag (bl x8.2), n0⟩ ?_ ?_
   ·
    iterate 2 refine q1 _ ?_
    exact ba.nil' (bJ.slots _ (dR.of rfl))
   cases cg h
   refine aR ?_
   refine And.intro (fun hn => nomatch hn) ?_
   intro hq
   subst hq
   exact ⟨.inr rfl, [vi i1], rfl, rfl, fun _ _ hh => hh, rfl⟩
  ·
   replace h := aU hc9 h
   refine bb (t := x8.1) rfl hc9 ?_
   refine bm ?_
   cases cg h
   refine g9 ⟨tab [(0, bB a0), (1, .func g caps), (7, vi (a0.length : Int)), (8, vi (i1 + 1))], ag (bl x8.2), n0⟩ ?_ ?_
   ·
    refine step (v := vi (i1 + 1)) (cV (cW hinv4 hgo3 hB2) rfl rfl) ?_
    refine q1 _ ?_
    exact ba.nil' (bJ.slots _ (dR.of rfl))
   exact And.intro rfl rfl
 ·
  rintro i1 qs hinv4 hgo3
  show bD _ _ _ _ _ ⟨tab [(0, bB a0), (1, .func g caps), (7, vi (a0.length : Int)), (8, vi i1)], ag (bl qs), n0⟩
  have hc5 : ¬ (decide (i1 < (a0.length : Int)) = true) := fun hq => hgo3 (of_decide_eq_true hq)
  refine aI ⟨tab [(0, bB a0), (1, .func g caps), (7, vi (a0.length : Int)), (8, vi i1), (9, vb (decide (i1 < (a0.length : Int))))], ag (bl qs), n0⟩ ?_ ?_
  ·
   refine q1 _ ?_
   exact ba.nil' (bJ.slots _ (dR.of rfl))
  refine aF ?_
  refine bb (t := decide (i1 < (a0.length : Int))) rfl hc5 ?_
  refine dl (s0 := ⟨tab [], ag (bl qs), n0⟩) (bJ.slots _ (dR.of rfl)) ?_
  refine cD ?_
  exact And.intro rfl rfl
 ·
  intro r' hq
  subst hq
  exact cg h
 rintro qs rfl
 refine aI ⟨tab [(4, vi (-1))], ag (bl qs), n0⟩ ?_ ?_
 ·
  refine q1 _ ?_
  exact ba.nil' (bJ.slots _ (dR.of rfl))
 cases cg h
 refine aR ?_
 exact ⟨.inr rfl, [vi (-1)], rfl, rfl, fun _ _ hh => hh, rfl⟩
def DW : bG := .mk 9
 (.seq (.ops false [
 oo 4 (.mov (.c (.bool false)))])
 (.seq (.ops false [
 oo 5 (.mov (.t 0)),
 oo 6 (.mov (.t 1)),
 oo 7 (.call true 72 [(.t 5), (.t 6)]),
 oo 8 (.bin .geq (.t 7) (ci 0)),
 oo 4 (.mov (.t 8))])
 (.ret)))
 [.t 4]
set_option maxRecDepth 100000 in
theorem DX : gV Tryd.prog 33 DW = true := by kernel_rfl
theorem DY {τ : Type} {bl : τ → List (Nat × aP)} {n0 : Nat} (hdom : ∀ s, (bl s).map (·.1) = List.range n0) (hS : ∀ s, SN (rn (List.range n0)) n0 (ag (bl s)) (bl s))
    (hR : ∀ s s', e8 (up (List.range n0) n0) (bl s') (rem (List.range n0) (ag (bl s))) = ag (bl s')) {a0 : List Int} {f : Int → τ → Option (Bool × τ)} {g : Nat} {caps : List V} (hcaps : ar (rn (List.range n0)) n0 caps caps)
    (hf : ∀ x s r, f x s = some r → ew Tryd.prog g (.d (.int .u64 x) :: caps) (ag (bl s)) n0 (vb r.1) (ag (bl r.2)) n0) {s : τ} {r : Bool × τ} (h : lX a0 f s = some r) :
    bZ Tryd.prog 33 [bB a0, .func g caps] (ag (bl s)) n0 (vb r.1) (ag (bl r.2)) n0 := by
 have hlen : (List.range n0).length = n0 := by simp
 refine bZ.introN (bl := bl s) (bl' := bl r.2) DX (show 2 ≤ 9 by decide) (hdom s) ?_
 refine dl (s0 := ⟨tab [(0, bB a0), (1, .func g caps)], ag (bl s), n0⟩) (bJ.slots _ (dR.of rfl)) ?_
 refine aI ⟨tab [(0, bB a0), (1, .func g caps)], ag (bl s), n0⟩ ?_ ?_
 ·
  refine q1 _ ?_
  exact ba.nil' (bJ.slots _ (dR.of rfl))
 unfold lX at h
 obtain ⟨r1, hr1, h⟩ := al h
 have hi := DV hdom hf hr1
 have hl := fo (P := Tryd.prog) (f := 72) (vals := [bB a0, .func g caps]) (σ := ag (bl s)) (n := n0) (List.range n0) (bl := bl s) (bl' := bl r1.2) (n0' := n0) (v0 := vi r1.1) (vals0 := [bB a0, .func g caps]) (by rw [hlen]; exact hi) (by rw [hlen]; exact Nat.le_refl _) List.nodup_range (fun i hi => List.mem_range.1 hi) (fun p hp => by
    have : p.1 ∈ (bl r1.2).map (·.1) := List.mem_map.2 ⟨p, hp, rfl⟩
    rw [hdom] at this
    exact List.mem_range.1 this) ⟨.d _, VN.funcs (by rw [hlen]; exact hcaps), trivial⟩ (by rw [hlen]; exact hS s)
 rw [hR, hlen, Nat.sub_self, Nat.add_zero] at hl
 have hl' : ew Tryd.prog 72 [bB a0, .func g caps] (ag (bl s)) n0 (vi r1.1) (ag (bl r1.2)) n0 := hl
 refine aI ⟨tab [(4, vb (decide (r1.1 ≥ 0)))], ag (bl r1.2), n0⟩ ?_ ?_
 ·
  iterate 2 refine q1 _ ?_
  refine gW (v := vi r1.1) (σ' := ag (bl r1.2)) (n' := n0) hl' (Nat.le_refl _) ?_
  iterate 2 refine q1 _ ?_
  exact ba.nil' (bJ.slots _ (dR.of rfl))
 cases cg h
 refine aR ?_
 exact ⟨.inr rfl, [vb (decide (r1.1 ≥ 0))], rfl, rfl, fun _ _ hh => hh, rfl⟩
@[reducible] def dL (a4 : aK) (s : List (List Int) × List (Int × Bool)) : List (Nat × aP) := [(0, .var [.loc 1 0 s.1.length]), (1, .lst false none (List.map (eL none (D.int .u64)) s.1)), (2, .var [.mref 3]), (3, .mp (eM (D.int .u64) D.bool s.2)), (4, .var [.func 57 [.ptr 0 0 0, .ptr 2 0 0, bS a4, .ptr 4 0 0]])]
theorem DZ {self : Int → Int → (List (List Int)) → (List (Int × Bool)) → aK → Option (Bool × (List (List Int)) × (List (Int × Bool)))} {a4 : aK}
    (hself : ∀ (a0 : Int) (a1 : Int) (a2 : (List (List Int))) (a3 : (List (Int × Bool))) (a4 : aK) (r : (Bool × (List (List Int)) × (List (Int × Bool)))), self a0 a1 a2 a3 a4 = some r → bZ Tryd.prog 57 [vi a0, .d (.int .u64 a1), .ptr 0 0 0, .ptr 2 0 0, bS a4, .ptr 4 0 0] (ag (dL a4 (a2, a3))) 5 (vb r.1) (ag (dL a4 r.2)) 5)
    {a0 a1 x : Int} {s : List (List Int) × List (Int × Bool)} {r : (Bool × (List (List Int)) × (List (Int × Bool)))} (h : self (IntKind.i64.wrap (a0 + 1)) (cw .u64 a1 x) s.1 s.2 a4 = some r) :
    bZ Tryd.prog 58 [.d (.int .u64 x), .ptr 4 0 0, .d (.cptr none (.int .i64 a0) 0), .d (.cptr none (.int .u64 a1) 0)] (ag (dL a4 s)) 5 (vb (!r.1)) (ag (dL a4 r.2)) 5 := by
 refine bZ.introN (bl := dL a4 s) (bl' := dL a4 r.2) Dt (show 4 ≤ 14 by decide) rfl ?_
 refine dl (s0 := ⟨tab [(0, .d (.int .u64 x)), (1, .ptr 4 0 0), (2, .d (.cptr none (.int .i64 a0) 0)), (3, .d (.cptr none (.int .u64 a1) 0))], ag (dL a4 s), 5⟩) (nm [0, 1, 2, 3, 4] ⟨.d _, .pt 4, .d _, .d _, trivial⟩ ⟨⟨show 0 < 5 by decide, _, rfl, .vars ⟨.lc 1, trivial⟩⟩, ⟨show 1 < 5 by decide, _, rfl, .lst _ _ _⟩, ⟨show 2 < 5 by decide, _, rfl, .vars ⟨.mref 3 (show 3 < 5 by decide), trivial⟩⟩, ⟨show 3 < 5 by decide, _, rfl, .mp _⟩, ⟨show 4 < 5 by decide, _, rfl, .vars ⟨.funcs (ar.c (.pt 0) (ar.c (.pt 2) (ar.c (.d _) (ar.c (.pt 4) ar.nil0)))), trivial⟩⟩, trivial⟩) ?_
 refine aI ⟨tab [(0, .d (.int .u64 x)), (1, .ptr 4 0 0), (2, .d (.cptr none (.int .i64 a0) 0)), (3, .d (.cptr none (.int .u64 a1) 0))], ag (dL a4 s), 5⟩ ?_ ?_
 ·
  refine q1 _ ?_
  exact ba.nil' (nm [0, 1, 2, 3, 4] ⟨.d _, .pt 4, .d _, .d _, trivial⟩ ⟨⟨show 0 < 5 by decide, _, rfl, .vars ⟨.lc 1, trivial⟩⟩, ⟨show 1 < 5 by decide, _, rfl, .lst _ _ _⟩, ⟨show 2 < 5 by decide, _, rfl, .vars ⟨.mref 3 (show 3 < 5 by decide), trivial⟩⟩, ⟨show 3 < 5 by decide, _, rfl, .mp _⟩, ⟨show 4 < 5 by decide, _, rfl, .vars ⟨.funcs (ar.c (.pt 0) (ar.c (.pt 2) (ar.c (.d _) (ar.c (.pt 4) ar.nil0)))), trivial⟩⟩, trivial⟩)
 refine aI ⟨tab [(5, vb (!r.1))], ag (dL a4 r.2), 5⟩ ?_ ?_
 ·
  iterate 6 refine q1 _ ?_
  refine mx (v := vb r.1) (σ' := (ai (ai (ai (ai (ai (ai (ai (ai (ai (ai (ag [(0, .var [.loc 1 0 s.1.length]), (1, .lst false none (List.map (eL none (D.int .u64)) s.1)), (2, .var [.mref 3]), (3, .mp (eM (D.int .u64) D.bool s.2)), (4, .var [.func 57 [.ptr 0 0 0, .ptr 2 0 0, bS a4, .ptr 4 0 0]])]) 4 none) 3 none) 2 none) 1 none) 0 none) 4 (some (.var [.func 57 [.ptr 0 0 0, .ptr 2 0 0, bS a4, .ptr 4 0 0]]))) 3 (some (.mp (eM (D.int .u64) D.bool r.2.2)))) 2 (some (.var [.mref 3]))) 1 (some (.lst false none (List.map (eL none (D.int .u64)) r.2.1)))) 0 (some (.var [.loc 1 0 r.2.1.length])))) (n' := 5) rfl (fo [0, 1, 2, 3, 4] (hself _ _ _ _ _ _ h) (show 5 ≤ 5 by decide) (by decide) (show ∀ i ∈ [0, 1, 2, 3, 4], i < 5 by decide) (bT (show 0 < 5 by decide) (bT (show 1 < 5 by decide) (bT (show 2 < 5 by decide) (bT (show 3 < 5 by decide) (bT (show 4 < 5 by decide) ft))))) (ar.c (.d _) (ar.c (.d _) (ar.c (.pt 0) (ar.c (.pt 2) (ar.c (.d _) (ar.c (.pt 4) ar.nil0)))))) (SN.c (show 0 < 5 by decide) rfl (.vars (ar.c (.lc 1) ar.nil0)) (SN.c (show 1 < 5 by decide) rfl (.lst _ _ _) (SN.c (show 2 < 5 by decide) rfl (.vars (ar.c (.mref 3 (show 3 < 5 by decide)) ar.nil0)) (SN.c (show 3 < 5 by decide) rfl (.mp _) (SN.c (show 4 < 5 by decide) rfl (.vars (ar.c (.funcs (ar.c (.pt 0) (ar.c (.pt 2) (ar.c (.d _) (ar.c (.pt 4) ar.nil0))))) ar.nil0)) SN.nil0)))))) (show 5 ≤ 5 by decide) ?_
  iterate 2 refine q1 _ ?_
  exact ba.nil' (nm [0, 1, 2, 3, 4] ⟨.d _, trivial⟩ ⟨⟨show 0 < 5 by decide, _, rfl, .vars ⟨.lc 1, trivial⟩⟩, ⟨show 1 < 5 by decide, _, rfl, .lst _ _ _⟩, ⟨show 2 < 5 by decide, _, rfl, .vars ⟨.mref 3 (show 3 < 5 by decide), trivial⟩⟩, ⟨show 3 < 5 by decide, _, rfl, .mp _⟩, ⟨show 4 < 5 by decide, _, rfl, .vars ⟨.funcs (ar.c (.pt 0) (ar.c (.pt 2) (ar.c (.d _) (ar.c (.pt 4) ar.nil0)))), trivial⟩⟩, trivial⟩)
 refine aR ?_
 exact ⟨.inr rfl, _, rfl, rfl, de.sub ⟨rfl, rfl, rfl, rfl, rfl, trivial⟩, rfl⟩
theorem ww (a4 : aK) (s : List (List Int) × List (Int × Bool)) : (dL a4 s).map (·.1) = List.range 5 := rfl
theorem wx (a4 : aK) (s : List (List Int) × List (Int × Bool)) : SN (rn (List.range 5)) 5 (ag (dL a4 s)) (dL a4 s) := (SN.c (show 0 < 5 by decide) rfl (.vars (ar.c (.lc 1) ar.nil0)) (SN.c (show 1 < 5 by decide) rfl (.lst _ _ _) (SN.c (show 2 < 5 by decide) rfl (.vars (ar.c (.mref 3 (show 3 < 5 by decide)) ar.nil0)) (SN.c (show 3 < 5 by decide) rfl (.mp _) (SN.c (show 4 < 5 by decide) rfl (.vars (ar.c (.funcs (ar.c (.pt 0) (ar.c (.pt 2) (ar.c (.d _) (ar.c (.pt 4) ar.nil0))))) ar.nil0)) SN.nil0)))))
theorem wy (a4 : aK) (s s' : List (List Int) × List (Int × Bool)) : e8 (up (List.range 5) 5) (dL a4 s') (rem (List.range 5) (ag (dL a4 s))) = ag (dL a4 s') := by
  funext id
  match id with
  | 0 => rfl
  | 1 => rfl
  | 2 => rfl
  | 3 => rfl
  | 4 => rfl
  | n + 5 => rfl
theorem bZ.here {f : Nat} {vals : List V} {a4 : aK} {s s' : List (List Int) × List (Int × Bool)} {d : D} (h : bZ Tryd.prog f vals (ag (dL a4 s)) 5 (.d d) (ag (dL a4 s')) 5) (hv : ar (rn (List.range 5)) 5 vals vals) :
    ew Tryd.prog f vals (ag (dL a4 s)) 5 (.d d) (ag (dL a4 s')) 5 := by
  have hl := fo (P := Tryd.prog) (σ := ag (dL a4 s)) (n := 5) (List.range 5) h (Nat.le_refl _) List.nodup_range (fun i hi => List.mem_range.1 hi) (fun p hp => by
    have : p.1 ∈ (dL a4 s').map (·.1) := List.mem_map.2 ⟨p, hp, rfl⟩
    rw [ww] at this
    exact List.mem_range.1 this) hv (wx a4 s)
  rw [show (5 : Nat) + (5 - (List.range 5).length) = 5 from rfl] at hl
  rw [wy] at hl
  exact hl
theorem rJ (a0 a1 : Int) : ar (rn (List.range 5)) 5 [.ptr 4 0 0, .d (.cptr none (.int .i64 a0) 0), .d (.cptr none (.int .u64 a1) 0)] [.ptr 4 0 0, .d (.cptr none (.int .i64 a0) 0), .d (.cptr none (.int .u64 a1) 0)] := ar.c (.pt 4) (ar.c (.d _) (ar.c (.d _) ar.nil0))
end Go.AM
