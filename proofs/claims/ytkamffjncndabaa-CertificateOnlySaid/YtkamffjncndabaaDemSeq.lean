/- The lengths of the lines from a piece on, handed to a loop one after the other. -/
import Derived.RangeFuncNested
import Derived.RangeFuncBox
import Derived.RangeFuncBound
import Derived.RangeFuncCalls
import Derived.RangeFuncLeaves
import Derived.Shelf.Abstract
import Derived.Shelf.RegionOpen
import Derived.WalkKit
import Derived.OwnWalkIn
import Derived.TacticsInMore
import Derived.LoopNIn
import Derived.LoopIn
import Derived.Lib.Hide
import Derived.Outline
import Derived.Test.YtkamffjncndabaaDemBase
import Derived.Test.YtkamffjncndabaaProg
namespace Go.Proofs.Ytkamffjncndabaa
open Go.RowKit
attribute [local go_sem] Oper.semAt_some
/-- What a round keeps: all below n₀, and the blocks from lo to hi. -/
structure Keep (n₀ lo hi : Nat) (W W' : World) : Prop where
  below : Below n₀ W W'
  at_ : ∀ k, lo ≤ k → k < hi → W'.heap[k]? = W.heap[k]?
theorem Keep.refl (n₀ lo hi : Nat) (W : World) : Keep n₀ lo hi W W := ⟨Below.refl _ _, fun _ _ _ => rfl⟩
theorem Keep.trans {n₀ lo hi : Nat} {A B C : World} (h : Keep n₀ lo hi A B) (k : Keep n₀ lo hi B C) : Keep n₀ lo hi A C := ⟨h.below.trans k.below, fun i h1 h2 => (k.at_ i h1 h2).trans (h.at_ i h1 h2)⟩
theorem Keep.boxed {n₀ lo hi : Nat} {W W' : World} (h : Keep n₀ lo hi W W') {B : Nat} {t : TypeId} {v : Value} (hb : Boxed W B t v) (h1 : lo ≤ B) (h2 : B < hi) : Boxed W' B t v := (h.at_ B h1 h2).trans hb
theorem Keep.of_below {n₀ lo hi B : Nat} {W W' : World} (h : Below B W W') (h1 : n₀ ≤ B) (h2 : hi ≤ B) : Keep n₀ lo hi W W' := ⟨h.mono h1, fun k _ hk => h.block k (by omega)⟩
theorem Keep.put {n₀ lo hi : Nat} {w : World} (hn : n₀ ≤ w.heap.size) (hh : hi ≤ w.heap.size) (W : World) (l : Nat) (o o' : Obj) (hl : w.heap.size ≤ l) (h : W.heap[l]? = some o) (hc : o.isCells = false) (hw : o.isWalk = false) : Keep n₀ lo hi W (W.putObj l o') :=
  ⟨belowK_b hn W l o o' hl h hc hw, fun k _ hk => World.putObj_heap_other (by omega)⟩
theorem Keep.alloc {n₀ lo hi : Nat} {A W : World} (h : Keep n₀ lo hi A W) (hn : n₀ ≤ W.heap.size) (hh : hi ≤ W.heap.size) (o : Obj) : Keep n₀ lo hi A (W.alloc o) :=
  ⟨h.below.alloc hn o, fun k h1 h2 => (Below.heap_alloc W o k (by omega)).trans (h.at_ k h1 h2)⟩
theorem Keep.setCell {n₀ lo hi : Nat} {A W : World} (h : Keep n₀ lo hi A W) {p : Addr} (hn : n₀ ≤ p.block) (hp : p.block < lo ∨ hi ≤ p.block) (u : Value) : Keep n₀ lo hi A (W.setCell p u) :=
  ⟨h.below.setCell hn u, fun k h1 h2 => (Below.heap_setCell W p u k (by omega)).trans (h.at_ k h1 h2)⟩

theorem map_snoc {N : Nat} {pre : List (Fin N)} {c : Nat} (h : pre.map Fin.val = List.range c) (hc : c < N) : (pre ++ [(⟨c, hc⟩ : Fin N)]).map Fin.val = List.range (c + 1) := by
  rw [List.map_append, h, List.range_succ]; rfl
theorem map_len {N : Nat} {pre : List (Fin N)} {c : Nat} (h : pre.map Fin.val = List.range c) : pre.length = c := by
  have := congrArg List.length h
  simpa using this

set_option maxRecDepth 100000 in
set_option maxHeartbeats 2000000 in
theorem lengths1_in (F : Fence) (n : Nat) (h7 : F.fn 50) (hro : F.round = none) (hn : 1 ≤ n) (l lo n₀ i cap N : Nat) (A : Option Addr) (ps : List Pc) (hN : N = ps.length - i) (hi : i < ps.length) (hm : ps.length ≤ 64) (hok : allOk ps = true) (J Jx : List (Fin N) → World → Prop)
    (hY : ∀ pre x W, J pre W → pre.length < N → YieldAt F (n - 1) Try.prog l #[.int .i64 ((i : Int) + (x.val : Int) + 1), .int .i64 (lenR ps i (x.val + 1))] W fun e W' =>
      (e = .returned (.bool true) ∧ J (pre ++ [x]) W' ∧ Keep n₀ lo (lo + 2) W W') ∨ (e = .returned (.bool false) ∧ Jx (pre ++ [x]) W'))
    (W : World) (bS : Boxed W lo 22 (.slice A ps.length cap)) (bI : Boxed W (lo + 1) 3 (.int .i64 (i : Int))) (hP : Pcs W n₀ A ps) (h0 : J [] W) :
    CallsIn F n Try.prog 50 #[.func (.yield l) #[] #[], .pointer (some ⟨lo + 1, 0, none⟩), .pointer (some ⟨lo, 0, none⟩)] W fun e W' => (∃ v, e = .returned v) ∧
      ((∃ ys, ys.map Fin.val = List.range N ∧ J ys W') ∨ (∃ pre, (∃ k, k < N ∧ pre.map Fin.val = List.range (k + 1)) ∧ Jx pre W')) := by
  obtain ⟨b, off, rfl, hB, hc⟩ := hP (by omega)
  have cI := bI.cell
  obtain ⟨m, hm'⟩ : ∃ m, m = ps.length := ⟨_, rfl⟩
  rw [← hm'] at hm hi
  have HM : Hid (m = ps.length) := hm'
  refine callsIn_of_wp Try.func50 rfl h7 ?_ hro
  simp only [Try.ntmps50, List.size_toArray, List.length_cons, List.length_nil, Nat.reduceAdd, Nat.reduceSub, Array.replicate_succ, Array.replicate_zero, List.push_toArray, List.append_toArray, List.nil_append, List.cons_append]
  clear hm'
  gi_wp2
  gi_loopw [4, 5] (fun s j wr => ∃ c : Nat, c ≤ N ∧ s = .int .i64 (lenR ps i c) ∧ j = .int .i64 ((i : Int) + (c : Int)) ∧ (∃ pre, pre.map Fin.val = List.range c ∧ J pre wr) ∧ Keep n₀ lo (lo + 2) W wr)
    (fun _ j _ => m - (intOf j).toNat)
  case atStart => exact ⟨0, Nat.zero_le _, rfl, by simp, ⟨[], rfl, h0⟩, Keep.refl _ _ _ _⟩
  case round =>
    obtain ⟨c, hcN, rfl, rfl, ⟨pre, hpre, hJs⟩, hnx⟩ := hrel
    have eS := (hnx.boxed bS (Nat.le_refl _) (by omega)).cell
    have eI := (hnx.boxed bI (by omega) (by omega)).cell
    rw [← HM.out] at eS
    have hb0 := lenR_bound hok i c (by have := HM.out; omega)
    by_cases hlt : c < N
    · obtain ⟨c0, c1, c2⟩ := hc (i + c) (by have := HM.out; omega)
      replace c0 := (hnx.below.cell (p := ⟨b, off + (i + c) * 3, none⟩) hB).trans c0
      replace c1 := (hnx.below.cell (p := ⟨b, off + (i + c) * 3 + 1, none⟩) hB).trans c1
      clear c2 hc
      have hic : i + c < m := by have := HM.out; omega
      have hb1 := lenR_bound hok i (c + 1) (by have := HM.out; omega)
      have hal := allOk_at hok (k := i + c) (by have := HM.out; omega)
      obtain ⟨fn, tmps, assign, body, hy, hR⟩ := hY pre ⟨c, hlt⟩ wr hJs (by rw [map_len hpre]; exact hlt)
      dsimp only at hy
      have HR := Lib.hid hR
      have HP : Hid (pre.map Fin.val = List.range c) := hpre
      clear hR hpre
      rcases Nat.eq_zero_or_pos c with rfl | hpos
      · have e : lenR ps i (0 + 1) = lenR ps i 0 + wdAt ps i := by simp [lenR]
        have e0 : lenR ps i 0 = 0 := rfl
        have HE := Lib.hid e
        rw [e] at hy
        simp only [Nat.add_zero] at c0 c1 hal
        simp only [Int.natCast_zero, Int.add_zero] at hy
        have hz : 0 ≤ lenR ps i 0 ∧ lenR ps i 0 ≤ 0 := by omega
        clear e e0 hb0 hb1
        gi_wp2
        refine HR.out.mono ?_
        rintro e W3 (⟨rfl, hJ3, hk3⟩ | ⟨rfl, hJx3⟩)
        · gi_wp2
          go_roundw
          case rel => exact ⟨0 + 1, by omega, by rw [HE.out], by go_num, ⟨_, map_snoc HP.out hlt, hJ3⟩, hnx.trans hk3⟩
          case measure => simp [intOf]; omega
        · gi_wp2
          refine bodyPost_ret (results_none rfl _ _ _) rfl ?_
          exact ⟨⟨_, rfl⟩, .inr ⟨_, ⟨0, hlt, map_snoc HP.out hlt⟩, hJx3⟩⟩
      · have e : lenR ps i (c + 1) = lenR ps i c + spAt ps (i + c) + wdAt ps (i + c) := by rw [lenR, if_neg (by omega)]
        have HE := Lib.hid e
        rw [e] at hy hb1
        clear e
        gi_wp2
        refine HR.out.mono ?_
        rintro e W3 (⟨rfl, hJ3, hk3⟩ | ⟨rfl, hJx3⟩)
        · gi_wp2
          go_roundw
          case rel => exact ⟨c + 1, by omega, by rw [HE.out], by go_num, ⟨_, map_snoc HP.out hlt, hJ3⟩, hnx.trans hk3⟩
          case measure => simp [intOf]; omega
        · gi_wp2
          refine bodyPost_ret (results_none rfl _ _ _) rfl ?_
          exact ⟨⟨_, rfl⟩, .inr ⟨_, ⟨c, hlt, map_snoc HP.out hlt⟩, hJx3⟩⟩
    · have HP : Hid (pre.map Fin.val = List.range N) := by
        obtain rfl : c = N := by omega
        exact hpre
      have hcc : i + c = m := by have := HM.out; omega
      have h1 : ((i : Int) + (c : Int) < (m : Int)) = False := by simp; omega
      clear hcc hc hpre
      gi_wp2
      go_end0
      exact ⟨⟨_, rfl⟩, .inl ⟨_, HP.out, hJs⟩⟩
end Go.Proofs.Ytkamffjncndabaa
