/- slices.Backward of a row of boxes: the elements from the last to the first, handed to a loop. -/
import Derived.Test.YtonahgdchngabaaPkRow
import Derived.RangeFuncBound
import Derived.RangeFuncCalls
import Derived.RangeFuncLeaves
import Derived.Shelf.Abstract
import Derived.WalkKit
import Derived.OwnWalkIn
import Derived.TacticsInMore
import Derived.LoopNIn
import Derived.LoopIn
import Derived.Outline
namespace Go.Proofs.Ytonahgdchngabaa
open Go.RowKit
attribute [local go_sem] Oper.semAt_some
/-- An element that is handed on: its index, and its height at that time. -/
abbrev BEl (N : Nat) := { p : Nat × Int // p.1 < N }
def dn (N : Nat) : Nat → List Nat
  | 0 => []
  | c + 1 => dn N c ++ [N - 1 - c]
theorem dn_len (N : Nat) : ∀ c, (dn N c).length = c
  | 0 => rfl
  | c + 1 => by rw [dn, List.length_append, dn_len N c]; rfl
def bEnc (Q : List Q5) (N : Nat) (x : BEl N) : Array Value := #[.int .i64 (x.val.1 : Int), .agg (((Q[x.val.1]?).getD noQ).atY x.val.2).cells.toArray]
/-- What a round of the loop keeps. -/
structure KeepB (n₀ lo g : Nat) (Q : List Q5) (W W' : World) : Prop where
  below : Below n₀ W W'
  box : W'.heap[lo]? = W.heap[lo]?
  row : (∃ Y, RowAt g Q Y W) → ∃ Y, RowAt g Q Y W'
theorem KeepB.refl (n₀ lo g : Nat) (Q : List Q5) (W : World) : KeepB n₀ lo g Q W W := ⟨Below.refl _ _, rfl, id⟩
theorem KeepB.trans {n₀ lo g : Nat} {Q : List Q5} {A B C : World} (h : KeepB n₀ lo g Q A B) (k : KeepB n₀ lo g Q B C) : KeepB n₀ lo g Q A C := ⟨h.below.trans k.below, k.box.trans h.box, fun r => k.row (h.row r)⟩
theorem KeepB.put {n₀ lo g : Nat} {Q : List Q5} {w : World} (hn : n₀ ≤ w.heap.size) (hlo : lo < w.heap.size) (hg : g < w.heap.size) (W : World) (l : Nat) (o o' : Obj) (hl : w.heap.size ≤ l) (h : W.heap[l]? = some o) (hc : o.isCells = false) (hw : o.isWalk = false) : KeepB n₀ lo g Q W (W.putObj l o') :=
  ⟨belowK_b hn W l o o' hl h hc hw, World.putObj_heap_other (by omega), fun ⟨Y, r⟩ => ⟨Y, r.keep (World.putObj_heap_other (by omega))⟩⟩
set_option maxHeartbeats 1000000 in
theorem back_any (A : Option Addr) (n c : Nat) (w : World) :
    Calls Try.prog 24 #[.slice A n c] w fun e w' => e = .returned (.func (.func 37) #[] #[.pointer (some ⟨w.heap.size, 0, none⟩)]) ∧ w' = w.alloc (.cells #[.slice A n c] 22) := by
  go_enter Try.func24, Try.ntmps24
  go_wp2
  go_ret
  exact ⟨rfl, rfl⟩
set_option maxRecDepth 100000 in
set_option maxHeartbeats 4000000 in
theorem back1_in (F : Fence) (n : Nat) (hF : F = Fence.wide) (hn : 1 ≤ n) (l' lo n₀ g N cap : Nat) (Q : List Q5) (hN : N ≤ Q.length) (hQ : Q.length ≤ 100000) (J Jx : List (BEl N) → World → Prop) (W : World)
    (hY : ∀ pre x W, J pre W → pre.length < N → YieldAt F (n - 1) Try.prog l' (bEnc Q N x) W fun e W' =>
      (e = .returned (.bool true) ∧ J (pre ++ [x]) W' ∧ KeepB n₀ lo g Q W W') ∨ (e = .returned (.bool false) ∧ Jx (pre ++ [x]) W'))
    (bS : Boxed W lo 22 (.slice (some ⟨g, 0, none⟩) N cap)) (hR : ∃ Y, RowAt g Q Y W) (h0 : J [] W) :
    CallsIn F n Try.prog 37 #[.func (.yield l') #[] #[], .pointer (some ⟨lo, 0, none⟩)] W fun e W' => (∃ v, e = .returned v) ∧
      ((∃ ys, ys.map (fun x => x.val.1) = dn N N ∧ J ys W') ∨ (∃ pre, True ∧ Jx pre W')) := by
  have hro : F.round = none := by rw [hF]; rfl
  have hfn : ∀ k, F.fn k := fun k => by rw [hF]; trivial
  clear hF
  have eS := bS.cell
  have hN2 : N ≤ 100000 := by omega
  have e0 : IntKind.i64.wrap ((N : Int) - 1) = (N : Int) - 1 := IntWalk.i64_in _ (by omega)
  refine callsIn_of_wp Try.func37 rfl (hfn _) ?_ hro
  simp only [Try.ntmps37, List.size_toArray, List.length_cons, List.length_nil, Nat.reduceAdd, Nat.reduceSub, Array.replicate_succ, Array.replicate_zero, List.push_toArray, List.append_toArray, List.nil_append, List.cons_append]
  gi_wp2
  clear eS
  gi_loopw [3] (fun q wr => ∃ m : Nat, m ≤ N ∧ q = .int .i64 ((m : Int) - 1) ∧ (∃ pre, pre.map (fun x : BEl N => x.val.1) = dn N (N - m) ∧ J pre wr) ∧ KeepB n₀ lo g Q W wr ∧ W.heap.size ≤ wr.heap.size)
    (fun q _ => (intOf q + 1).toNat)
  case atStart => exact ⟨N, Nat.le_refl _, by first | rfl | (rw [e0]), ⟨[], by rw [Nat.sub_self]; rfl, h0⟩, KeepB.refl _ _ _ _ _, Nat.le_refl _⟩
  case round =>
    obtain ⟨m, hm, rfl, ⟨pre, hpre, hJs⟩, hnx, hsz⟩ := hrel
    have HNX := Lib.hid hnx
    have HPRE := Lib.hid hpre
    have hplen : pre.length = N - m := by
      have := congrArg List.length hpre
      rw [List.length_map, dn_len] at this
      exact this
    have eS : wr.cell? ⟨lo, 0, none⟩ = some (.slice (some ⟨g, 0, none⟩) N cap) := blk_cell (HNX.out.box.trans bS) 0 _ rfl
    clear hpre hnx
    by_cases hlt : 0 < m
    · obtain ⟨k, rfl⟩ : ∃ k, m = k + 1 := ⟨m - 1, by omega⟩
      have ek : ((k + 1 : Nat) : Int) - 1 = (k : Int) := by omega
      rw [ek]
      obtain ⟨Y, hrow⟩ := HNX.out.row hR
      have hkq : k < Q.length := by omega
      have hqk := List.getElem?_eq_getElem hkq
      have HY : Hid (YieldAt F (n - 1) Try.prog l' (bEnc Q N ⟨(k, Y k), by omega⟩) wr fun e W' =>
          (e = .returned (.bool true) ∧ J (pre ++ [⟨(k, Y k), by omega⟩]) W' ∧ KeepB n₀ lo g Q wr W') ∨ (e = .returned (.bool false) ∧ Jx (pre ++ [⟨(k, Y k), by omega⟩]) W')) := hY pre ⟨(k, Y k), by omega⟩ wr hJs (by omega)
      have HENC : Hid (bEnc Q N ⟨(k, Y k), by omega⟩ = #[.int .i64 (k : Int), .agg (bxA ((Q[k]).t.atY (Y k)) (Q[k]).A (Q[k]).c (Q[k]).A' (Q[k]).c')]) := by
        show _ = _
        unfold bEnc
        simp [hqk, Q5.cells, Q5.atY]
      rw [HENC.out] at HY
      have hcell : ∀ j, j < 11 → ∀ v, (bxA ((Q[k]).t.atY (Y k)) (Q[k]).A (Q[k]).c (Q[k]).A' (Q[k]).c')[j]? = some v → wr.cell? ⟨g, k * 11 + j, none⟩ = some v := fun j hj v hv => hrow.cell hqk hj (by unfold Q5.cells; rw [Array.getElem?_toList]; exact hv)
      generalize (Q[k]).t.atY (Y k) = u at HENC HY hcell
      generalize (Q[k]).A = A1 at HENC HY hcell
      generalize (Q[k]).c = c1 at HENC HY hcell
      generalize (Q[k]).A' = A2 at HENC HY hcell
      generalize (Q[k]).c' = c2 at HENC HY hcell
      have c0 : wr.cell? ⟨g, k * 11, none⟩ = some (.int .i64 u.k) := hcell 0 (by omega) _ rfl
      have c100 : wr.cell? ⟨g, k * 11 + 1, none⟩ = some (.string u.nm) := hcell 1 (by omega) _ rfl
      have c200 : wr.cell? ⟨g, k * 11 + 2, none⟩ = some (.int .i64 u.sz) := hcell 2 (by omega) _ rfl
      have c3 : wr.cell? ⟨g, k * 11 + 3, none⟩ = some (.int .i64 u.w) := hcell 3 (by omega) _ rfl
      have c4 : wr.cell? ⟨g, k * 11 + 4, none⟩ = some (.int .i64 u.h) := hcell 4 (by omega) _ rfl
      have c5 : wr.cell? ⟨g, k * 11 + 5, none⟩ = some (.int .i64 u.d) := hcell 5 (by omega) _ rfl
      have c6 : wr.cell? ⟨g, k * 11 + 6, none⟩ = some (.int .i64 u.x) := hcell 6 (by omega) _ rfl
      have c7 : wr.cell? ⟨g, k * 11 + 7, none⟩ = some (.int .i64 u.y) := hcell 7 (by omega) _ rfl
      have c8 : wr.cell? ⟨g, k * 11 + 8, none⟩ = some (.slice A1 u.kids.length c1) := hcell 8 (by omega) _ rfl
      have c9 : wr.cell? ⟨g, k * 11 + 9, none⟩ = some (.int .i64 u.of_) := hcell 9 (by omega) _ rfl
      have c10 : wr.cell? ⟨g, k * 11 + 10, none⟩ = some (.slice A2 u.src.length c2) := hcell 10 (by omega) _ rfl
      obtain ⟨fn, tmps, assign, body, hy, hR2⟩ := HY.out
      have HR := Lib.hid hR2
      clear hR2 HY hqk hrow hcell HENC
      have es : IntKind.i64.wrap ((k : Int) - 1) = (k : Int) - 1 := IntWalk.i64_in _ (by omega)
      have hkN : k < N := by omega
      gi_wp2
      refine HR.out.mono ?_
      rintro e W3 (⟨rfl, hJ3, hk3⟩ | ⟨rfl, hJx3⟩)
      · gi_wp2
        go_roundw
        case rel => exact ⟨k, by omega, rfl, ⟨_, by rw [show N - k = N - (k + 1) + 1 by omega, dn, List.map_append, HPRE.out]; simp; omega, hJ3⟩, HNX.out.trans hk3, Nat.le_trans hsz hk3.below.size⟩
        case measure => simp [intOf]
      · gi_wp2
        refine bodyPost_ret (results_none rfl _ _ _) rfl ?_
        exact ⟨⟨_, rfl⟩, .inr ⟨_, trivial, hJx3⟩⟩
    · obtain rfl : m = 0 := by omega
      have hp2 : (pre.map (fun x : BEl N => x.val.1)) = dn N N := HPRE.out
      gi_wp2
      go_end0
      exact ⟨⟨_, rfl⟩, .inl ⟨_, hp2, hJs⟩⟩
theorem back_stops (F : Fence) (n : Nat) (hF : F = Fence.wide) (hn : 1 ≤ n) (lo n₀ g N cap : Nat) (Q : List Q5) (hN : N ≤ Q.length) (hQ : Q.length ≤ 100000) (w : World) (bS : Boxed w lo 22 (.slice (some ⟨g, 0, none⟩) N cap)) (hR : ∃ Y, RowAt g Q Y w) :
    SeqStopsK F n Try.prog 37 #[.pointer (some ⟨lo, 0, none⟩)] (bEnc Q N) (KeepB n₀ lo g Q) (fun ys => ys.map (fun x => x.val.1) = dn N N) (fun _ => True) N w := fun l' J Jx W hW _ _ hY h0 =>
  back1_in F n hF hn l' lo n₀ g N cap Q hN hQ J Jx W hY ((hW.block lo bS.lt).trans bS) (by obtain ⟨Y, r⟩ := hR; exact ⟨Y, r.keep (hW.block g r.lt)⟩) h0
end Go.Proofs.Ytonahgdchngabaa
