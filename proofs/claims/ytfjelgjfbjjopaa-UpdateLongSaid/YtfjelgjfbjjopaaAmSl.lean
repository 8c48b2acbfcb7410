import Derived.RangeFuncNested
import Derived.RangeFuncBound
import Derived.RangeFuncCalls
import Derived.RangeFuncLeaves
import Derived.RangeFuncBox
import Derived.Shelf.Abstract
import Derived.Shelf.RegionOpen
import Derived.WalkKit
import Derived.OwnWalkIn
import Derived.TacticsInMore
import Derived.LoopNIn
import Derived.LoopIn
import Derived.Test.YtfjelgjfbjjopaaProg
import Derived.Test.YtfjelgjfbjjopaaAmN6
/-  Several texts in one. -/
section
namespace Go.Proofs
open Go Go.RowKit Go.Shelf
attribute [local go_sem] Oper.semAt_some
def ef (n k : Nat) : List Nat := (List.range k).map fun i => n - 1 - i
theorem sr (n k : Nat) : ef n (k + 1) = ef n k ++ [n - 1 - k] := by simp [ef, List.range_succ]
theorem ss (n k : Nat) : (ef n k).length = k := by simp [ef]
set_option maxRecDepth 100000 in
set_option maxHeartbeats 2000000 in
theorem su (F : Fence) (n : Nat) (h7 : F.fn 73) (hro : F.round = none) (hn : 1 ≤ n) (l Bs o0 b off len cap : Nat) (f : Nat → Nat → Value) (hreach : len ≤ 1000000) (KC : Nat → Nat → Prop) (hKs : KC Bs o0) (hKb : ∀ j q, j < len → q < 2 → KC b (off + j * 2 + q)) (J Jx : List Nat → World → Prop)
    (hY : ∀ pre x W, x < len → J pre W → pre.length < len → YieldAt F (n - 1) Try.prog l #[.int .i64 x, .agg #[f x 0, f x 1]] W fun e W' =>
      (e = .returned (.bool true) ∧ J (pre ++ [x]) W' ∧ (∀ bb o v, KC bb o → W.cell? ⟨bb, o, none⟩ = some v → W'.cell? ⟨bb, o, none⟩ = some v)) ∨ (e = .returned (.bool false) ∧ Jx (pre ++ [x]) W'))
    (W : World) (hBs : W.cell? ⟨Bs, o0, none⟩ = some (.slice (some ⟨b, off, none⟩) len cap)) (hc : ∀ j q, j < len → q < 2 → W.cell? ⟨b, off + j * 2 + q, none⟩ = some (f j q)) (h0 : J [] W) :
    CallsIn F n Try.prog 73 #[.func (.yield l) #[] #[], .pointer (some ⟨Bs, o0, none⟩)] W fun e W' => (∃ v, e = .returned v) ∧
      ((J (ef len len) W') ∨ (∃ pre, Jx pre W')) := by
  refine callsIn_of_wp Try.func73 rfl h7 ?_ hro
  simp only [Try.ntmps73, List.size_toArray, List.length_cons, List.length_nil, Nat.reduceAdd, Nat.reduceSub, Array.replicate_succ, Array.replicate_zero, List.push_toArray, List.append_toArray, List.nil_append, List.cons_append]
  gi_wp2
  gi_loopw [3] (fun i wr => ∃ k : Nat, k ≤ len ∧ i = .int .i64 ((len : Int) - 1 - k) ∧ J (ef len k) wr ∧ (∀ bb o v, KC bb o → W.cell? ⟨bb, o, none⟩ = some v → wr.cell? ⟨bb, o, none⟩ = some v))
    (fun i _ => (intOf i + 1).toNat)
  case atStart => exact ⟨0, Nat.zero_le _, by simp, h0, fun _ _ _ _ h => h⟩
  case round =>
    obtain ⟨k, hk, rfl, hJs, hnx⟩ := hrel
    have hBs' : wr.cell? ⟨Bs, o0, none⟩ = some (.slice (some ⟨b, off, none⟩) len cap) := hnx _ _ _ hKs hBs
    by_cases hlt : k < len
    · have hx : len - 1 - k < len := by omega
      obtain ⟨fn, tmps, assign, body, hy, hR⟩ := hY _ (len - 1 - k) wr hx hJs (by rw [ss]; exact hlt)
      have h0' : wr.cell? ⟨b, off + (len - 1 - k) * 2, none⟩ = some (f (len - 1 - k) 0) := hnx b (off + (len - 1 - k) * 2 + 0) _ (hKb _ 0 hx (by decide)) (hc _ 0 hx (by decide))
      have h1' : wr.cell? ⟨b, off + (len - 1 - k) * 2 + 1, none⟩ = some (f (len - 1 - k) 1) := hnx _ _ _ (hKb _ 1 hx (by decide)) (hc _ 1 hx (by decide))
      have hi : ((len : Int) - 1 - k) = ((len - 1 - k : Nat) : Int) := by omega
      rw [hi]
      clear hc
      gi_wp2
      refine hR.mono ?_
      rintro e W3 (⟨rfl, hJ3, hk3⟩ | ⟨rfl, hJx3⟩)
      · gi_wp2
        go_roundw
        case rel => exact ⟨k + 1, by omega, by simp; omega, by rw [sr]; exact hJ3, fun bb o v h1 h2 => hk3 bb o v h1 (hnx bb o v h1 h2)⟩
        case measure => simp [intOf]
      · gi_wp2
        refine bodyPost_ret (results_none rfl _ _ _) rfl ?_
        exact ⟨⟨_, rfl⟩, .inr ⟨_, hJx3⟩⟩
    · obtain rfl : k = len := by omega
      have hi : ((k : Int) - 1 - k) = -1 := by omega
      rw [hi]
      gi_wp2
      go_end0
      exact ⟨⟨_, rfl⟩, .inl hJs⟩
set_option maxRecDepth 100000 in
set_option maxHeartbeats 1000000 in
theorem sv (F : Fence) (n : Nat) (h7 : F.fn 73) (hro : F.round = none) (l Bs o0 cap : Nat) (a : Option Addr) (J : List Nat → World → Prop) (W : World) (hBs : W.cell? ⟨Bs, o0, none⟩ = some (.slice a 0 cap)) (h0 : J [] W) :
    CallsIn F n Try.prog 73 #[.func (.yield l) #[] #[], .pointer (some ⟨Bs, o0, none⟩)] W fun e W' => (∃ v, e = .returned v) ∧ J [] W' := by
  refine callsIn_of_wp Try.func73 rfl h7 ?_ hro
  simp only [Try.ntmps73, List.size_toArray, List.length_cons, List.length_nil, Nat.reduceAdd, Nat.reduceSub, Array.replicate_succ, Array.replicate_zero, List.push_toArray, List.append_toArray, List.nil_append, List.cons_append]
  gi_wp2
  gi_loopw [3] (fun i wr => i = .int .i64 (-1) ∧ J [] wr) (fun _ _ => 0)
  case atStart => exact ⟨by simp, h0⟩
  case round =>
    obtain ⟨rfl, hJs⟩ := hrel
    gi_wp2
    go_end0
    exact ⟨⟨_, rfl⟩, hJs⟩
theorem sw (F : Fence) (n : Nat) (h7 : F.fn 73) (hro : F.round = none) (hn : 1 ≤ n) (Bs o0 len cap : Nat) (a : Option Addr) (f : Nat → Nat → Value) (hreach : len ≤ 1000000) (KC : Nat → Nat → Prop) (w : World) (hBs : Bs < w.heap.size) (hKs : KC Bs o0) (hc : w.cell? ⟨Bs, o0, none⟩ = some (.slice a len cap))
    (hI : len = 0 ∨ ∃ b off, a = some ⟨b, off, none⟩ ∧ b < w.heap.size ∧ (∀ j q, j < len → q < 2 → KC b (off + j * 2 + q)) ∧ ∀ j q, j < len → q < 2 → w.cell? ⟨b, off + j * 2 + q, none⟩ = some (f j q)) :
    SeqStopsK F n Try.prog 73 #[.pointer (some ⟨Bs, o0, none⟩)] (fun x : {x : Nat // x < len} => #[Value.int .i64 x.1, .agg #[f x.1 0, f x.1 1]]) (fun W W' => ∀ bb o v, KC bb o → W.cell? ⟨bb, o, none⟩ = some v → W'.cell? ⟨bb, o, none⟩ = some v) (fun ys => ys.map (·.1) = ef len len) (fun _ => True) len w := fun l J Jx W hW _ _ hY h0 => by
  have hc' := (hW.cell (p := ⟨Bs, o0, none⟩) hBs).trans hc
  rcases hI with rfl | ⟨b, off, rfl, hb, hKb, hcs⟩
  · exact (sv F n h7 hro l Bs o0 cap a (fun pre W => ∃ xs : List {x : Nat // x < 0}, xs.map (·.1) = pre ∧ J xs W) W hc' ⟨[], rfl, h0⟩).mono fun e W' ⟨he, xs, hx, hj⟩ => ⟨he, .inl ⟨xs, hx, hj⟩⟩
  · refine (su F n h7 hro hn l Bs o0 b off len cap f hreach KC hKs hKb (fun pre W => ∃ xs : List {x : Nat // x < len}, xs.map (·.1) = pre ∧ J xs W) (fun pre W => ∃ xs : List {x : Nat // x < len}, Jx xs W) ?_ W hc' (fun j q hj hq => (hW.cell (p := ⟨b, off + j * 2 + q, none⟩) hb).trans (hcs j q hj hq)) ⟨[], rfl, h0⟩).mono ?_
    · rintro pre x W1 hx ⟨xs, rfl, hj⟩ hl
      refine (hY xs ⟨x, hx⟩ W1 hj (by simpa using hl)).mono ?_
      rintro e W' (⟨rfl, h1, h2⟩ | ⟨rfl, h1⟩)
      · exact .inl ⟨rfl, ⟨xs ++ [⟨x, hx⟩], by simp, h1⟩, h2⟩
      · exact .inr ⟨rfl, _, h1⟩
    · rintro e W' ⟨he, ⟨xs, hx, hj⟩ | ⟨pre, xs, hj⟩⟩
      · exact ⟨he, .inl ⟨xs, hx, hj⟩⟩
      · exact ⟨he, .inr ⟨xs, trivial, hj⟩⟩
end Go.Proofs
end
section
set_option linter.unusedVariables false
set_option linter.unusedSectionVars false
namespace Go.AM
open Go Go.RowKit
variable [Glob]
section
variable {σ : au} {T : Nat → V} {n : Nat} {x y : AX}
theorem sx {vs : List V} {id m : Nat} {cs : List V} {es ds : List D} (hid : σ id = some (.var cs)) (hm : m = cs.length) (h0 : bu (cs.map (c4 σ)) = some es) (hs : es.all (fun d => d.shape none) = true) (h : RV σ vs ds) : RV σ (.loc id 0 m :: vs) (.vec none es :: ds) := by
  refine ⟨⟨_, ?_, .refl _⟩, h⟩
  unfold dk
  simp only [hid]
  rw [if_pos ⟨trivial, hm⟩, h0]
  simp only [hs, if_true]
theorem sy {z : D} {l : Int} (hx : aD T x = .d (.int .i64 l)) (hy : aD T y = .d (.int .i64 l)) (hl : 0 ≤ l ∧ l ≤ 4294967296) {cs : List V} (hc : List.replicate l.toNat (V.d z) = cs) {m : Nat} (hm : l.toNat = m) :
    ay (.mkslV z x y) (aD T) σ n = some (.loc n 0 m, aj σ n (some (.var cs)), n + 1) := by
  subst hc; subst hm
  have h2 : 0 ≤ l ∧ l ≤ l ∧ l ≤ l ∧ l ≤ 4294967296 := ⟨hl.1, Int.le_refl _, Int.le_refl _, hl.2⟩
  simp only [ay, hx, hy, if_pos h2]
theorem jT {id m : Nat} {cs : List V} {i : Int} {kk : IntKind} (hx : aD T x = .loc id 0 m) (hid : σ id = some (.var cs)) (hy : aD T y = .d (.int kk i)) (hi : 0 ≤ i ∧ i < (m : Int)) {j : Nat} (hj : i.toNat = j) : ay (.iaddr none x y) (aD T) σ n = some (.ptr id j 0, σ, n) := by
  subst hj
  have hk : bX σ (.loc id 0 m) = some none := by simp [bX, hid]
  simp [ay, hx, hy, hk, hi]
end
end Go.AM
end
