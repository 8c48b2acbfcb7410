import Derived.Test.YtfjelgjfbjjopaaDoorNjE
set_option linter.unusedVariables false
set_option linter.unusedSimpArgs false
namespace Go.AM
open Go Go.RowKit Go.Proofs
def DP : bN :=
 (.seq (.ops false [
 oo 9 (.bin .lss (.t 8) (.t 7))])
 (.seq (.cond (.t 9)
 (.skip)
 (.exit 0))
 (.seq (.block 1 (.seq (.ops false [
 oo 10 (.mov (.t 8)),
 oo 5 (.mov (.t 10))])
 (.seq (.ops false [
 oo 11 (.mov (.t 1)),
 oo 12 (.mov (.t 0)),
 oo 13 (.mov (.t 5)),
 oo 14 (.iaddr none (.t 12) (.t 13)),
 oo 15 (.load none (.t 14)),
 oo 16 (.callv true (.t 11) [(.t 15)])])
 (.cond (.t 16)
 (.seq (.ops false [
 oo 17 (.mov (.t 5)),
 oo 4 (.mov (.t 17))])
 (.ret))
 (.skip)))))
 (.ops false [
 oo 18 (.bin .add (.t 8) (ci 1)),
 oo 8 (.mov (.t 18))]))))
def DQ : bQ := .mk 19
 (.seq (.ops false [
 oo 4 (.mov (ci 0))])
 (.seq (.seq (.ops false [
 oo 6 (.mov (.t 0)),
 oo 7 (.len (.t 6)),
 oo 8 (.mov (ci 0))])
 (.block 0 (.loop DP)))
 (.seq (.ops false [
 oo 4 (.mov (ci (-1)))])
 (.ret))))
 [.t 4]
set_option maxRecDepth 100000 in
theorem DR : hY Tryd.prog 72 DQ = true := by kernel_rfl
attribute [local irreducible] bb cC
theorem DS {τ : Type} {bl : τ → List (Nat × aS)} {n0 : Nat} (hdom : ∀ s, (bl s).map (·.1) = List.range n0) {a0 : List Int} {f : Int → τ → Option (Bool × τ)} {g : Nat} {caps : List V}
    (hf : ∀ x s r, f x s = some r → eI Tryd.prog g (.d (.int .u64 x) :: caps) (ah (bl s)) n0 (vb r.1) (ah (bl r.2)) n0) {s : τ} {r : Int × τ} (h : om a0 f s = some r) :
    b8 Tryd.prog 72 [bt a0, .func g caps] (ah (bl s)) n0 (vi r.1) (ah (bl r.2)) n0 := by
 refine b8.introN (bl := bl s) (bl' := bl r.2) DR (show 2 ≤ 19 by decide) (hdom s) ?_
 refine dB (s0 := ⟨tab [(0, bt a0), (1, .func g caps)], ah (bl s), n0⟩) (bO.slots _ (eo.of rfl)) ?_
 refine aM ⟨tab [(0, bt a0), (1, .func g caps)], ah (bl s), n0⟩ ?_ ?_
 ·
  refine q1 _ ?_
  exact bb.nil' (bO.slots _ (eo.of rfl))
 refine aH ?_
 refine aM ⟨tab [(0, bt a0), (1, .func g caps), (7, vi (a0.length : Int)), (8, vi 0)], ah (bl s), n0⟩ ?_ ?_
 ·
  refine q1 _ ?_
  refine step (v := vi (a0.length : Int)) (b6 (xs := a0) (e := (D.int .u64)) rfl) ?_
  refine q1 _ ?_
  exact bb.nil' (bO.slots _ (eo.of rfl))
 obtain ⟨q10, hl, h⟩ := aq h
 refine bL ?_
 refine ez (cZ (a0.length : Int)) (fun (i1 : Int) (qq : τ) => ⟨tab [(0, bt a0), (1, .func g caps), (7, vi (a0.length : Int)), (8, vi i1)], ah (bl qq), n0⟩) 0 (fun (qq : τ) => ⟨tab [], ah (bl qq), n0⟩) bR c8 (r := r) hl (by unfold bR; omega) ?_ ?_ ?_ ?_
 ·
  rintro i1 qs xr6 hinv4 hgo3 h
  show bH _ _ _ _ _ ⟨tab [(0, bt a0), (1, .func g caps), (7, vi (a0.length : Int)), (8, vi i1)], ah (bl qs), n0⟩
  have hc5 : decide (i1 < (a0.length : Int)) = true := decide_eq_true hgo3
  refine aM ⟨tab [(0, bt a0), (1, .func g caps), (7, vi (a0.length : Int)), (8, vi i1), (9, vb (decide (i1 < (a0.length : Int))))], ah (bl qs), n0⟩ ?_ ?_
  ·
   refine q1 _ ?_
   exact bb.nil' (bO.slots _ (eo.of rfl))
  refine df 7 rfl fun hB2 => ?_
  refine aH ?_
  refine bk (t := decide (i1 < (a0.length : Int))) rfl hc5 ?_
  refine bo ?_
  refine aH ?_
  refine bL ?_
  refine aM ⟨tab [(0, bt a0), (1, .func g caps), (5, vi i1), (7, vi (a0.length : Int)), (8, vi i1)], ah (bl qs), n0⟩ ?_ ?_
  ·
   iterate 2 refine q1 _ ?_
   exact bb.nil' (bO.slots _ (eo.of rfl))
  unfold ol at h
  obtain ⟨x7, hx7, h⟩ := aq h
  obtain ⟨x8, hx8, h⟩ := aq h
  refine aM ⟨tab [(0, bt a0), (1, .func g caps), (5, vi i1), (7, vi (a0.length : Int)), (8, vi i1), (16, vb x8.1)], ah (bl x8.2), n0⟩ ?_ ?_
  ·
   iterate 3 refine q1 _ ?_
   refine step (v := .d (.cptr none (.int .u64 x7) 0)) (cQ (xs := a0) (e := (D.int .u64)) hx7 rfl rfl) ?_
   refine q1 _ ?_
   refine mP (v := vb x8.1) (σ' := ah (bl x8.2)) (n' := n0) rfl (hf _ _ _ hx8) (Nat.le_refl _) ?_
   exact bb.nil' (bO.slots _ (eo.of rfl))
  by_cases hc9 : x8.1 = true
  ·
   replace h := aT hc9 h
   refine bk (t := x8.1) rfl hc9 ?_
   refine aM ⟨tab [(4, vi i1)], ah (bl x8.2), n0⟩ ?_ ?_
   ·
    iterate 2 refine q1 _ ?_
    exact bb.nil' (bO.slots _ (eo.of rfl))
   cases cd h
   refine a9 ?_
   refine And.intro (fun hn => nomatch hn) ?_
   intro hq
   subst hq
   exact ⟨.inr rfl, [vi i1], rfl, rfl, fun _ _ hh => hh, rfl⟩
  ·
   replace h := aU hc9 h
   refine bg (t := x8.1) rfl hc9 ?_
   refine bo ?_
   cases cd h
   refine ik ⟨tab [(0, bt a0), (1, .func g caps), (7, vi (a0.length : Int)), (8, vi (i1 + 1))], ah (bl x8.2), n0⟩ ?_ ?_
   ·
    refine step (v := vi (i1 + 1)) (c9 (da hinv4 hgo3 hB2) rfl rfl) ?_
    refine q1 _ ?_
    exact bb.nil' (bO.slots _ (eo.of rfl))
   exact And.intro rfl rfl
 ·
  rintro i1 qs hinv4 hgo3
  show bH _ _ _ _ _ ⟨tab [(0, bt a0), (1, .func g caps), (7, vi (a0.length : Int)), (8, vi i1)], ah (bl qs), n0⟩
  have hc5 : ¬ (decide (i1 < (a0.length : Int)) = true) := fun hq => hgo3 (of_decide_eq_true hq)
  refine aM ⟨tab [(0, bt a0), (1, .func g caps), (7, vi (a0.length : Int)), (8, vi i1), (9, vb (decide (i1 < (a0.length : Int))))], ah (bl qs), n0⟩ ?_ ?_
  ·
   refine q1 _ ?_
   exact bb.nil' (bO.slots _ (eo.of rfl))
  refine aH ?_
  refine bg (t := decide (i1 < (a0.length : Int))) rfl hc5 ?_
  refine dB (s0 := ⟨tab [], ah (bl qs), n0⟩) (bO.slots _ (eo.of rfl)) ?_
  refine cM ?_
  exact And.intro rfl rfl
 ·
  intro r' hq
  subst hq
  exact cd h
 rintro qs rfl
 refine aM ⟨tab [(4, vi (-1))], ah (bl qs), n0⟩ ?_ ?_
 ·
  refine q1 _ ?_
  exact bb.nil' (bO.slots _ (eo.of rfl))
 cases cd h
 refine a9 ?_
 exact ⟨.inr rfl, [vi (-1)], rfl, rfl, fun _ _ hh => hh, rfl⟩
def DT : bQ := .mk 9
 (.seq (.ops false [
 oo 4 (.mov (.c (.bool false)))])
 (.seq (.ops false [
 oo 5 (.mov (.t 0)),
 oo 6 (.mov (.t 1)),
 oo 7 (.call true 72 [(.t 5), (.t 6)]),
 oo 8 (.bin .geq (.t 7) (ci 0)),
 oo 4 (.mov (.t 8))])
 (.ret)))
 [.t 4]
set_option maxRecDepth 100000 in
theorem DU : hY Tryd.prog 33 DT = true := by kernel_rfl
theorem DV {τ : Type} {bl : τ → List (Nat × aS)} {n0 : Nat} (hdom : ∀ s, (bl s).map (·.1) = List.range n0) (hS : ∀ s, SN (rn (List.range n0)) n0 (ah (bl s)) (bl s))
    (hR : ∀ s s', fk (up (List.range n0) n0) (bl s') (rem (List.range n0) (ah (bl s))) = ah (bl s')) {a0 : List Int} {f : Int → τ → Option (Bool × τ)} {g : Nat} {caps : List V} (hcaps : aw (rn (List.range n0)) n0 caps caps)
    (hf : ∀ x s r, f x s = some r → eI Tryd.prog g (.d (.int .u64 x) :: caps) (ah (bl s)) n0 (vb r.1) (ah (bl r.2)) n0) {s : τ} {r : Bool × τ} (h : mn a0 f s = some r) :
    b8 Tryd.prog 33 [bt a0, .func g caps] (ah (bl s)) n0 (vb r.1) (ah (bl r.2)) n0 := by
 have hlen : (List.range n0).length = n0 := by simp
 refine b8.introN (bl := bl s) (bl' := bl r.2) DU (show 2 ≤ 9 by decide) (hdom s) ?_
 refine dB (s0 := ⟨tab [(0, bt a0), (1, .func g caps)], ah (bl s), n0⟩) (bO.slots _ (eo.of rfl)) ?_
 refine aM ⟨tab [(0, bt a0), (1, .func g caps)], ah (bl s), n0⟩ ?_ ?_
 ·
  refine q1 _ ?_
  exact bb.nil' (bO.slots _ (eo.of rfl))
 unfold mn at h
 obtain ⟨r1, hr1, h⟩ := aq h
 have hi := DS hdom hf hr1
 have hl := fB (P := Tryd.prog) (f := 72) (vals := [bt a0, .func g caps]) (σ := ah (bl s)) (n := n0) (List.range n0) (bl := bl s) (bl' := bl r1.2) (n0' := n0) (v0 := vi r1.1) (vals0 := [bt a0, .func g caps]) (by rw [hlen]; exact hi) (by rw [hlen]; exact Nat.le_refl _) List.nodup_range (fun i hi => List.mem_range.1 hi) (fun p hp => by
    have : p.1 ∈ (bl r1.2).map (·.1) := List.mem_map.2 ⟨p, hp, rfl⟩
    rw [hdom] at this
    exact List.mem_range.1 this) ⟨.d _, VN.funcs (by rw [hlen]; exact hcaps), trivial⟩ (by rw [hlen]; exact hS s)
 rw [hR, hlen, Nat.sub_self, Nat.add_zero] at hl
 have hl' : eI Tryd.prog 72 [bt a0, .func g caps] (ah (bl s)) n0 (vi r1.1) (ah (bl r1.2)) n0 := hl
 refine aM ⟨tab [(4, vb (decide (r1.1 ≥ 0)))], ah (bl r1.2), n0⟩ ?_ ?_
 ·
  iterate 2 refine q1 _ ?_
  refine hZ (v := vi r1.1) (σ' := ah (bl r1.2)) (n' := n0) hl' (Nat.le_refl _) ?_
  iterate 2 refine q1 _ ?_
  exact bb.nil' (bO.slots _ (eo.of rfl))
 cases cd h
 refine a9 ?_
 exact ⟨.inr rfl, [vb (decide (r1.1 ≥ 0))], rfl, rfl, fun _ _ hh => hh, rfl⟩
@[reducible] def dW (a4 : aL) (s : List (List Int) × List (Int × Bool)) : List (Nat × aS) := [(0, .var [.loc 1 0 s.1.length]), (1, .lst false none (List.map (eL none (D.int .u64)) s.1)), (2, .var [.mref 3]), (3, .mp (eM (D.int .u64) D.bool s.2)), (4, .var [.func 57 [.ptr 0 0 0, .ptr 2 0 0, bZ a4, .ptr 4 0 0]])]
theorem DW {self : Int → Int → (List (List Int)) → (List (Int × Bool)) → aL → Option (Bool × (List (List Int)) × (List (Int × Bool)))} {a4 : aL}
    (hself : ∀ (a0 : Int) (a1 : Int) (a2 : (List (List Int))) (a3 : (List (Int × Bool))) (a4 : aL) (r : (Bool × (List (List Int)) × (List (Int × Bool)))), self a0 a1 a2 a3 a4 = some r → b8 Tryd.prog 57 [vi a0, .d (.int .u64 a1), .ptr 0 0 0, .ptr 2 0 0, bZ a4, .ptr 4 0 0] (ah (dW a4 (a2, a3))) 5 (vb r.1) (ah (dW a4 r.2)) 5)
    {a0 a1 x : Int} {s : List (List Int) × List (Int × Bool)} {r : (Bool × (List (List Int)) × (List (Int × Bool)))} (h : self (IntKind.i64.wrap (a0 + 1)) (ct .u64 a1 x) s.1 s.2 a4 = some r) :
    b8 Tryd.prog 58 [.d (.int .u64 x), .ptr 4 0 0, .d (.cptr none (.int .i64 a0) 0), .d (.cptr none (.int .u64 a1) 0)] (ah (dW a4 s)) 5 (vb (!r.1)) (ah (dW a4 r.2)) 5 := by
 refine b8.introN (bl := dW a4 s) (bl' := dW a4 r.2) Dw (show 4 ≤ 14 by decide) rfl ?_
 refine dB (s0 := ⟨tab [(0, .d (.int .u64 x)), (1, .ptr 4 0 0), (2, .d (.cptr none (.int .i64 a0) 0)), (3, .d (.cptr none (.int .u64 a1) 0))], ah (dW a4 s), 5⟩) (nm [0, 1, 2, 3, 4] ⟨.d _, .pt 4, .d _, .d _, trivial⟩ ⟨⟨show 0 < 5 by decide, _, rfl, .vars ⟨.lc 1, trivial⟩⟩, ⟨show 1 < 5 by decide, _, rfl, .lst _ _ _⟩, ⟨show 2 < 5 by decide, _, rfl, .vars ⟨.mref 3 (show 3 < 5 by decide), trivial⟩⟩, ⟨show 3 < 5 by decide, _, rfl, .mp _⟩, ⟨show 4 < 5 by decide, _, rfl, .vars ⟨.funcs (aw.c (.pt 0) (aw.c (.pt 2) (aw.c (.d _) (aw.c (.pt 4) aw.nil0)))), trivial⟩⟩, trivial⟩) ?_
 refine aM ⟨tab [(0, .d (.int .u64 x)), (1, .ptr 4 0 0), (2, .d (.cptr none (.int .i64 a0) 0)), (3, .d (.cptr none (.int .u64 a1) 0))], ah (dW a4 s), 5⟩ ?_ ?_
 ·
  refine q1 _ ?_
  exact bb.nil' (nm [0, 1, 2, 3, 4] ⟨.d _, .pt 4, .d _, .d _, trivial⟩ ⟨⟨show 0 < 5 by decide, _, rfl, .vars ⟨.lc 1, trivial⟩⟩, ⟨show 1 < 5 by decide, _, rfl, .lst _ _ _⟩, ⟨show 2 < 5 by decide, _, rfl, .vars ⟨.mref 3 (show 3 < 5 by decide), trivial⟩⟩, ⟨show 3 < 5 by decide, _, rfl, .mp _⟩, ⟨show 4 < 5 by decide, _, rfl, .vars ⟨.funcs (aw.c (.pt 0) (aw.c (.pt 2) (aw.c (.d _) (aw.c (.pt 4) aw.nil0)))), trivial⟩⟩, trivial⟩)
 refine aM ⟨tab [(5, vb (!r.1))], ah (dW a4 r.2), 5⟩ ?_ ?_
 ·
  iterate 6 refine q1 _ ?_
  refine mP (v := vb r.1) (σ' := (aj (aj (aj (aj (aj (aj (aj (aj (aj (aj (ah [(0, .var [.loc 1 0 s.1.length]), (1, .lst false none (List.map (eL none (D.int .u64)) s.1)), (2, .var [.mref 3]), (3, .mp (eM (D.int .u64) D.bool s.2)), (4, .var [.func 57 [.ptr 0 0 0, .ptr 2 0 0, bZ a4, .ptr 4 0 0]])]) 4 none) 3 none) 2 none) 1 none) 0 none) 4 (some (.var [.func 57 [.ptr 0 0 0, .ptr 2 0 0, bZ a4, .ptr 4 0 0]]))) 3 (some (.mp (eM (D.int .u64) D.bool r.2.2)))) 2 (some (.var [.mref 3]))) 1 (some (.lst false none (List.map (eL none (D.int .u64)) r.2.1)))) 0 (some (.var [.loc 1 0 r.2.1.length])))) (n' := 5) rfl (fB [0, 1, 2, 3, 4] (hself _ _ _ _ _ _ h) (show 5 ≤ 5 by decide) (by decide) (show ∀ i ∈ [0, 1, 2, 3, 4], i < 5 by decide) (bU (show 0 < 5 by decide) (bU (show 1 < 5 by decide) (bU (show 2 < 5 by decide) (bU (show 3 < 5 by decide) (bU (show 4 < 5 by decide) fE))))) (aw.c (.d _) (aw.c (.d _) (aw.c (.pt 0) (aw.c (.pt 2) (aw.c (.d _) (aw.c (.pt 4) aw.nil0)))))) (SN.c (show 0 < 5 by decide) rfl (.vars (aw.c (.lc 1) aw.nil0)) (SN.c (show 1 < 5 by decide) rfl (.lst _ _ _) (SN.c (show 2 < 5 by decide) rfl (.vars (aw.c (.mref 3 (show 3 < 5 by decide)) aw.nil0)) (SN.c (show 3 < 5 by decide) rfl (.mp _) (SN.c (show 4 < 5 by decide) rfl (.vars (aw.c (.funcs (aw.c (.pt 0) (aw.c (.pt 2) (aw.c (.d _) (aw.c (.pt 4) aw.nil0))))) aw.nil0)) SN.nil0)))))) (show 5 ≤ 5 by decide) ?_
  iterate 2 refine q1 _ ?_
  exact bb.nil' (nm [0, 1, 2, 3, 4] ⟨.d _, trivial⟩ ⟨⟨show 0 < 5 by decide, _, rfl, .vars ⟨.lc 1, trivial⟩⟩, ⟨show 1 < 5 by decide, _, rfl, .lst _ _ _⟩, ⟨show 2 < 5 by decide, _, rfl, .vars ⟨.mref 3 (show 3 < 5 by decide), trivial⟩⟩, ⟨show 3 < 5 by decide, _, rfl, .mp _⟩, ⟨show 4 < 5 by decide, _, rfl, .vars ⟨.funcs (aw.c (.pt 0) (aw.c (.pt 2) (aw.c (.d _) (aw.c (.pt 4) aw.nil0)))), trivial⟩⟩, trivial⟩)
 refine a9 ?_
 exact ⟨.inr rfl, _, rfl, rfl, dm.sub ⟨rfl, rfl, rfl, rfl, rfl, trivial⟩, rfl⟩
theorem wC (a4 : aL) (s : List (List Int) × List (Int × Bool)) : (dW a4 s).map (·.1) = List.range 5 := rfl
theorem wD (a4 : aL) (s : List (List Int) × List (Int × Bool)) : SN (rn (List.range 5)) 5 (ah (dW a4 s)) (dW a4 s) := (SN.c (show 0 < 5 by decide) rfl (.vars (aw.c (.lc 1) aw.nil0)) (SN.c (show 1 < 5 by decide) rfl (.lst _ _ _) (SN.c (show 2 < 5 by decide) rfl (.vars (aw.c (.mref 3 (show 3 < 5 by decide)) aw.nil0)) (SN.c (show 3 < 5 by decide) rfl (.mp _) (SN.c (show 4 < 5 by decide) rfl (.vars (aw.c (.funcs (aw.c (.pt 0) (aw.c (.pt 2) (aw.c (.d _) (aw.c (.pt 4) aw.nil0))))) aw.nil0)) SN.nil0)))))
theorem wE (a4 : aL) (s s' : List (List Int) × List (Int × Bool)) : fk (up (List.range 5) 5) (dW a4 s') (rem (List.range 5) (ah (dW a4 s))) = ah (dW a4 s') := by
  funext id
  match id with
  | 0 => rfl
  | 1 => rfl
  | 2 => rfl
  | 3 => rfl
  | 4 => rfl
  | n + 5 => rfl
theorem b8.here {f : Nat} {vals : List V} {a4 : aL} {s s' : List (List Int) × List (Int × Bool)} {d : D} (h : b8 Tryd.prog f vals (ah (dW a4 s)) 5 (.d d) (ah (dW a4 s')) 5) (hv : aw (rn (List.range 5)) 5 vals vals) :
    eI Tryd.prog f vals (ah (dW a4 s)) 5 (.d d) (ah (dW a4 s')) 5 := by
  have hl := fB (P := Tryd.prog) (σ := ah (dW a4 s)) (n := 5) (List.range 5) h (Nat.le_refl _) List.nodup_range (fun i hi => List.mem_range.1 hi) (fun p hp => by
    have : p.1 ∈ (dW a4 s').map (·.1) := List.mem_map.2 ⟨p, hp, rfl⟩
    rw [wC] at this
    exact List.mem_range.1 this) hv (wD a4 s)
  rw [show (5 : Nat) + (5 - (List.range 5).length) = 5 from rfl] at hl
  rw [wE] at hl
  exact hl
theorem rS (a0 a1 : Int) : aw (rn (List.range 5)) 5 [.ptr 4 0 0, .d (.cptr none (.int .i64 a0) 0), .d (.cptr none (.int .u64 a1) 0)] [.ptr 4 0 0, .d (.cptr none (.int .i64 a0) 0), .d (.cptr none (.int .u64 a1) 0)] := aw.c (.pt 4) (aw.c (.d _) (aw.c (.d _) aw.nil0))
end Go.AM
