/- The elements with an order, and all elements, handed to a loop one after the other. -/
import Derived.RangeFuncNested
import Derived.RangeFuncBox
import Derived.RangeFuncBound
import Derived.RangeFuncCalls
import Derived.RangeFuncLeaves
import Derived.Shelf.Abstract
import Derived.Shelf.RegionOpen
import Derived.WalkKit
import Derived.OwnWalkIn
import Derived.TacticsInMore
import Derived.LoopNIn
import Derived.LoopIn
import Derived.Lib.Hide
import Derived.Outline
import Derived.Test.YtjckbdbjcgjcaaaGluValid
namespace Go.Proofs.Ytjckbdbjcgjcaaa.Gu
open Go.RowKit
attribute [local go_sem] Oper.semAt_some
/-- What a round keeps: all below n₀, and the blocks from lo to hi. -/
structure Keep (n₀ lo hi : Nat) (W W' : World) : Prop where
  below : Below n₀ W W'
  at_ : ∀ k, lo ≤ k → k < hi → W'.heap[k]? = W.heap[k]?
theorem Keep.refl (n₀ lo hi : Nat) (W : World) : Keep n₀ lo hi W W := ⟨Below.refl _ _, fun _ _ _ => rfl⟩
theorem Keep.trans {n₀ lo hi : Nat} {A B C : World} (h : Keep n₀ lo hi A B) (k : Keep n₀ lo hi B C) : Keep n₀ lo hi A C := ⟨h.below.trans k.below, fun i h1 h2 => (k.at_ i h1 h2).trans (h.at_ i h1 h2)⟩
theorem Keep.boxed {n₀ lo hi : Nat} {W W' : World} (h : Keep n₀ lo hi W W') {B : Nat} {t : TypeId} {v : Value} (hb : Boxed W B t v) (h1 : lo ≤ B) (h2 : B < hi) : Boxed W' B t v := (h.at_ B h1 h2).trans hb
theorem Keep.of_below {n₀ lo hi B : Nat} {W W' : World} (h : Below B W W') (h1 : n₀ ≤ B) (h2 : hi ≤ B) : Keep n₀ lo hi W W' := ⟨h.mono h1, fun k _ hk => h.block k (by omega)⟩
theorem Keep.put {n₀ lo hi : Nat} {w : World} (hn : n₀ ≤ w.heap.size) (hh : hi ≤ w.heap.size) (W : World) (l : Nat) (o o' : Obj) (hl : w.heap.size ≤ l) (h : W.heap[l]? = some o) (hc : o.isCells = false) (hw : o.isWalk = false) : Keep n₀ lo hi W (W.putObj l o') :=
  ⟨belowK_b hn W l o o' hl h hc hw, fun k _ hk => World.putObj_heap_other (by omega)⟩
theorem Keep.alloc {n₀ lo hi : Nat} {A W : World} (h : Keep n₀ lo hi A W) (hn : n₀ ≤ W.heap.size) (hh : hi ≤ W.heap.size) (o : Obj) : Keep n₀ lo hi A (W.alloc o) :=
  ⟨h.below.alloc hn o, fun k h1 h2 => (Below.heap_alloc W o k (by omega)).trans (h.at_ k h1 h2)⟩
theorem Keep.setCell {n₀ lo hi : Nat} {A W : World} (h : Keep n₀ lo hi A W) {p : Addr} (hn : n₀ ≤ p.block) (hp : p.block < lo ∨ hi ≤ p.block) (u : Value) : Keep n₀ lo hi A (W.setCell p u) :=
  ⟨h.below.setCell hn u, fun k h1 h2 => (Below.heap_setCell W p u k (by omega)).trans (h.at_ k h1 h2)⟩
theorem grown_new {w w' : World} (h : Below w.heap.size w w') : w.grownBy w' none := ⟨h.os, h.tape, h.output, h.size, fun k hk _ => h.block k hk⟩
theorem inWide {P : Program} {F : Fence} {n : Nat} {f : FuncId} {args : Array Value} {w : World} {R : Ending → World → Prop} (hF : F = Fence.wide) (h : Calls P f args w R) : CallsIn F n P f args w R := by
  subst hF; exact callsIn_wide.2 h
/-- The first c elements' indices that are of the order o. -/
def pickO (l : List Gl) (o : Int) : Nat → List Nat
  | 0 => []
  | c + 1 => if odAt l c = o then pickO l o c ++ [c] else pickO l o c
theorem pickO_len (l : List Gl) (o : Int) : ∀ c, (pickO l o c).length ≤ c
  | 0 => Nat.le_refl _
  | c + 1 => by
    have := pickO_len l o c
    unfold pickO
    split
    · simp; omega
    · omega
abbrev OEl (l : List Gl) (o : Int) := { k : Nat // k < l.length ∧ odAt l k = o }
abbrev AEl (l : List Gl) := { k : Nat // k < l.length }
theorem pick_yes {l : List Gl} {o : Int} {c : Nat} (h : odAt l c = o) : pickO l o (c + 1) = pickO l o c ++ [c] := by rw [pickO, if_pos h]
theorem pick_no {l : List Gl} {o : Int} {c : Nat} (h : ¬ odAt l c = o) : pickO l o (c + 1) = pickO l o c := by rw [pickO, if_neg h]
set_option maxHeartbeats 1000000 in
theorem strs_in (F : Fence) (n : Nat) (hF : F = Fence.wide) (A : Option Addr) (len c : Nat) (o : Int) (w : World) :
    CallsIn F n Try.prog 56 #[.slice A len c, .int .i64 o] w fun e w' =>
      e = .returned (.func (.func 72) #[] #[.pointer (some ⟨w.heap.size, 0, none⟩), .pointer (some ⟨w.heap.size + 1, 0, none⟩)]) ∧
      w' = (w.alloc (.cells #[.slice A len c] 23)).alloc (.cells #[.int .i64 o] 3) := by
  have hro : F.round = none := by rw [hF]; rfl
  have hfn : F.fn 56 := by rw [hF]; trivial
  clear hF
  refine callsIn_of_wp Try.func56 rfl hfn ?_ hro
  simp only [Try.ntmps56, List.size_toArray, List.length_cons, List.length_nil, Nat.reduceAdd, Nat.reduceSub, Array.replicate_succ, Array.replicate_zero, List.push_toArray, List.append_toArray, List.nil_append, List.cons_append]
  gi_wp2
  go_ret
  exact ⟨rfl, rfl⟩
set_option maxHeartbeats 1000000 in
theorem shrs_in (F : Fence) (n : Nat) (hF : F = Fence.wide) (A : Option Addr) (len c : Nat) (w : World) :
    CallsIn F n Try.prog 57 #[.slice A len c] w fun e w' =>
      e = .returned (.func (.func 73) #[] #[.pointer (some ⟨w.heap.size, 0, none⟩)]) ∧
      w' = w.alloc (.cells #[.slice A len c] 23) := by
  have hro : F.round = none := by rw [hF]; rfl
  have hfn : F.fn 57 := by rw [hF]; trivial
  clear hF
  refine callsIn_of_wp Try.func57 rfl hfn ?_ hro
  simp only [Try.ntmps57, List.size_toArray, List.length_cons, List.length_nil, Nat.reduceAdd, Nat.reduceSub, Array.replicate_succ, Array.replicate_zero, List.push_toArray, List.append_toArray, List.nil_append, List.cons_append]
  gi_wp2
  go_ret
  exact ⟨rfl, rfl⟩
set_option maxRecDepth 100000 in
set_option maxHeartbeats 4000000 in
theorem strs1_in (F : Fence) (n : Nat) (hF : F = Fence.wide) (hn : 1 ≤ n) (l' lo n₀ cap : Nat) (A : Option Addr) (l : List Gl) (o : Int) (h2 : l.length ≤ 200) (J Jx : List (OEl l o) → World → Prop) (hn₀ : n₀ ≤ lo)
    (W : World) (hJ : AbidesFrom W.heap.size J)
    (hY : ∀ pre x W, J pre W → pre.length < l.length → YieldAt F (n - 1) Try.prog l' #[.int .i64 (x.val : Int), .int .i64 (stAt l x.val)] W fun e W' =>
      (e = .returned (.bool true) ∧ J (pre ++ [x]) W' ∧ Keep n₀ lo (lo + 2) W W') ∨ (e = .returned (.bool false) ∧ Jx (pre ++ [x]) W'))
    (bS : Boxed W lo 23 (.slice A l.length cap)) (bO : Boxed W (lo + 1) 3 (.int .i64 o)) (hP : Gls W n₀ A l) (h0 : J [] W) :
    CallsIn F n Try.prog 72 #[.func (.yield l') #[] #[], .pointer (some ⟨lo, 0, none⟩), .pointer (some ⟨lo + 1, 0, none⟩)] W fun e W' => (∃ v, e = .returned v) ∧
      ((∃ ys, ys.map Subtype.val = pickO l o l.length ∧ J ys W') ∨ (∃ pre, True ∧ Jx pre W')) := by
  have hro : F.round = none := by rw [hF]; rfl
  have hfn : ∀ k, F.fn k := fun k => by rw [hF]; trivial
  have HF := Lib.hid hF
  have HP := Lib.hid hP
  clear hF hP
  have eS := bS.cell
  have eO := bO.cell
  refine callsIn_of_wp Try.func72 rfl (hfn _) ?_ hro
  simp only [Try.ntmps72, List.size_toArray, List.length_cons, List.length_nil, Nat.reduceAdd, Nat.reduceSub, Array.replicate_succ, Array.replicate_zero, List.push_toArray, List.append_toArray, List.nil_append, List.cons_append]
  gi_wp2
  clear eS eO
  gi_loopw [8] (fun q wr => ∃ c : Nat, c ≤ l.length ∧ q = .int .i64 (c : Int) ∧ (∃ pre, pre.map Subtype.val = pickO l o c ∧ J pre wr) ∧ Keep n₀ lo (lo + 2) W wr ∧ W.heap.size ≤ wr.heap.size)
    (fun q _ => l.length - (intOf q).toNat)
  case atStart => exact ⟨0, Nat.zero_le _, rfl, ⟨[], rfl, h0⟩, Keep.refl _ _ _ _, Nat.le_refl _⟩
  case round =>
    obtain ⟨c, hc, rfl, ⟨pre, hpre, hJs⟩, hnx, hsz⟩ := hrel
    have HNX := Lib.hid hnx
    have HPRE := Lib.hid hpre
    have hplen : pre.length ≤ c := by
      have := congrArg List.length hpre
      rw [List.length_map] at this
      have := pickO_len l o c
      omega
    have eO := (hnx.boxed bO (by omega) (by omega)).cell
    clear hpre hnx
    by_cases hlt : c < l.length
    · have hlow : lo + 2 ≤ wr.heap.size := by have := bO.lt; omega
      obtain ⟨b, off, rfl, hB, hcl⟩ := HP.out (by omega)
      obtain ⟨c0, c1, c2, c3⟩ := hcl c hlt
      replace c0 := (HNX.out.below.cell (p := ⟨b, off + c * 4, none⟩) hB).trans c0
      replace c1 := (HNX.out.below.cell (p := ⟨b, off + c * 4 + 1, none⟩) hB).trans c1
      replace c2 := (HNX.out.below.cell (p := ⟨b, off + c * 4 + 2, none⟩) hB).trans c2
      replace c3 := (HNX.out.below.cell (p := ⟨b, off + c * 4 + 3, none⟩) hB).trans c3
      have HJB : Hid (∀ w', Below wr.heap.size wr w' → J pre w') := fun w' hb => hJ pre wr w' none hJs (grown_new hb) (fun _ e => by cases e)
      have hal : ∀ ob : Obj, Below wr.heap.size wr (wr.alloc ob) := fun ob => (Below.refl _ _).alloc (Nat.le_refl _) _
      have HAL := Lib.hid hal
      clear hcl hal
      by_cases ho : odAt l c = o
      · have HO := Lib.hid ho
        have HY : Hid (∀ w', Below wr.heap.size wr w' → YieldAt F (n - 1) Try.prog l' #[.int .i64 (c : Int), .int .i64 (stAt l c)] w' fun e W' =>
            (e = .returned (.bool true) ∧ J (pre ++ [⟨c, hlt, HO.out⟩]) W' ∧ Keep n₀ lo (lo + 2) w' W') ∨ (e = .returned (.bool false) ∧ Jx (pre ++ [⟨c, hlt, HO.out⟩]) W')) := fun w' hb =>
          hY pre ⟨c, hlt, HO.out⟩ w' (HJB.out w' hb) (by omega)
        rw [ho] at c3
        obtain ⟨a, ha⟩ : ∃ a, wdAt l c = a := ⟨_, rfl⟩
        obtain ⟨s, hs⟩ : ∃ s, stAt l c = s := ⟨_, rfl⟩
        obtain ⟨q, hq⟩ : ∃ q, shAt l c = q := ⟨_, rfl⟩
        rw [ha] at c0
        rw [hs] at c1 HY
        rw [hq] at c2
        clear ha hs hq ho
        have eO1 := ((HAL.out (.cells #[.int .i64 a, .int .i64 s, .int .i64 q, .int .i64 o] 64)).cell (p := ⟨lo + 1, 0, none⟩) (by show lo + 1 < _; omega)).trans eO
        have hlo1 : lo + 1 < wr.heap.size := by omega
        obtain ⟨fn, tmps, assign, body, hy, hR⟩ := HY.out (wr.alloc (.cells #[.int .i64 a, .int .i64 s, .int .i64 q, .int .i64 o] 64)) (HAL.out _)
        have HR := Lib.hid hR
        clear hR
        gi_wp2
        refine HR.out.mono ?_
        rintro e W3 (⟨rfl, hJ3, hk3⟩ | ⟨rfl, hJx3⟩)
        · gi_wp2
          go_roundw
          case rel => exact ⟨c + 1, by omega, by go_num, ⟨_, by rw [pick_yes HO.out, List.map_append, HPRE.out]; rfl, hJ3⟩, (HNX.out.trans (Keep.of_below (HAL.out _) (by omega) hlow)).trans hk3, by have := (HAL.out (.cells #[.int .i64 a, .int .i64 s, .int .i64 q, .int .i64 o] 64)).size; have := hk3.below.size; omega⟩
          case measure => simp [intOf]; omega
        · gi_wp2
          refine bodyPost_ret (results_none rfl _ _ _) rfl ?_
          exact ⟨⟨_, rfl⟩, .inr ⟨_, trivial, hJx3⟩⟩
      · have HO := Lib.hid ho
        obtain ⟨d, hd⟩ : ∃ d, odAt l c = d := ⟨_, rfl⟩
        rw [hd] at c3 ho
        have b1 : (d == o) = false := beq_eq_false_iff_ne.2 ho
        obtain ⟨a, ha⟩ : ∃ a, wdAt l c = a := ⟨_, rfl⟩
        obtain ⟨s, hs⟩ : ∃ s, stAt l c = s := ⟨_, rfl⟩
        obtain ⟨q, hq⟩ : ∃ q, shAt l c = q := ⟨_, rfl⟩
        rw [ha] at c0
        rw [hs] at c1
        rw [hq] at c2
        have eO1 := ((HAL.out (.cells #[.int .i64 a, .int .i64 s, .int .i64 q, .int .i64 d] 64)).cell (p := ⟨lo + 1, 0, none⟩) (by show lo + 1 < _; omega)).trans eO
        have hlo1 : lo + 1 < wr.heap.size := by omega
        clear ha hs hq hd
        gi_wp2
        go_roundw
        case rel => exact ⟨c + 1, by omega, by go_num, ⟨pre, by rw [pick_no HO.out]; exact HPRE.out, HJB.out _ (HAL.out _)⟩, HNX.out.trans (Keep.of_below (HAL.out _) (by omega) hlow), by have := (HAL.out (.cells #[.int .i64 a, .int .i64 s, .int .i64 q, .int .i64 d] 64)).size; omega⟩
        case measure => simp [intOf]; omega
    · obtain rfl : c = l.length := by omega
      gi_wp2
      go_end0
      exact ⟨⟨_, rfl⟩, .inl ⟨_, HPRE.out, hJs⟩⟩
set_option maxRecDepth 100000 in
set_option maxHeartbeats 4000000 in
theorem shrs1_in (F : Fence) (n : Nat) (hF : F = Fence.wide) (hn : 1 ≤ n) (l' lo n₀ cap : Nat) (A : Option Addr) (l : List Gl) (h2 : l.length ≤ 200) (J Jx : List (AEl l) → World → Prop) (hn₀ : n₀ ≤ lo)
    (W : World) (hJ : AbidesFrom W.heap.size J)
    (hY : ∀ pre x W, J pre W → pre.length < l.length → YieldAt F (n - 1) Try.prog l' #[.int .i64 (x.val : Int), .int .i64 (shAt l x.val)] W fun e W' =>
      (e = .returned (.bool true) ∧ J (pre ++ [x]) W' ∧ Keep n₀ lo (lo + 1) W W') ∨ (e = .returned (.bool false) ∧ Jx (pre ++ [x]) W'))
    (bS : Boxed W lo 23 (.slice A l.length cap)) (hP : Gls W n₀ A l) (h0 : J [] W) :
    CallsIn F n Try.prog 73 #[.func (.yield l') #[] #[], .pointer (some ⟨lo, 0, none⟩)] W fun e W' => (∃ v, e = .returned v) ∧
      ((∃ ys, ys.map Subtype.val = List.range l.length ∧ J ys W') ∨ (∃ pre, True ∧ Jx pre W')) := by
  have hro : F.round = none := by rw [hF]; rfl
  have hfn : ∀ k, F.fn k := fun k => by rw [hF]; trivial
  have HF := Lib.hid hF
  have HP := Lib.hid hP
  clear hF hP
  have eS := bS.cell
  refine callsIn_of_wp Try.func73 rfl (hfn _) ?_ hro
  simp only [Try.ntmps73, List.size_toArray, List.length_cons, List.length_nil, Nat.reduceAdd, Nat.reduceSub, Array.replicate_succ, Array.replicate_zero, List.push_toArray, List.append_toArray, List.nil_append, List.cons_append]
  gi_wp2
  clear eS
  gi_loopw [7] (fun q wr => ∃ c : Nat, c ≤ l.length ∧ q = .int .i64 (c : Int) ∧ (∃ pre, pre.map Subtype.val = List.range c ∧ J pre wr) ∧ Keep n₀ lo (lo + 1) W wr ∧ W.heap.size ≤ wr.heap.size)
    (fun q _ => l.length - (intOf q).toNat)
  case atStart => exact ⟨0, Nat.zero_le _, rfl, ⟨[], rfl, h0⟩, Keep.refl _ _ _ _, Nat.le_refl _⟩
  case round =>
    obtain ⟨c, hc, rfl, ⟨pre, hpre, hJs⟩, hnx, hsz⟩ := hrel
    have HNX := Lib.hid hnx
    have HPRE := Lib.hid hpre
    have hplen : pre.length ≤ c := by
      have := congrArg List.length hpre
      rw [List.length_map, List.length_range] at this
      omega
    clear hpre hnx
    by_cases hlt : c < l.length
    · have hlow : lo + 1 ≤ wr.heap.size := by have := bS.lt; omega
      obtain ⟨b, off, rfl, hB, hcl⟩ := HP.out (by omega)
      obtain ⟨c0, c1, c2, c3⟩ := hcl c hlt
      replace c0 := (HNX.out.below.cell (p := ⟨b, off + c * 4, none⟩) hB).trans c0
      replace c1 := (HNX.out.below.cell (p := ⟨b, off + c * 4 + 1, none⟩) hB).trans c1
      replace c2 := (HNX.out.below.cell (p := ⟨b, off + c * 4 + 2, none⟩) hB).trans c2
      replace c3 := (HNX.out.below.cell (p := ⟨b, off + c * 4 + 3, none⟩) hB).trans c3
      have HJB : Hid (∀ w', Below wr.heap.size wr w' → J pre w') := fun w' hb => hJ pre wr w' none hJs (grown_new hb) (fun _ e => by cases e)
      have hal : ∀ ob : Obj, Below wr.heap.size wr (wr.alloc ob) := fun ob => (Below.refl _ _).alloc (Nat.le_refl _) _
      have HAL := Lib.hid hal
      clear hcl hal
      have HY : Hid (∀ w', Below wr.heap.size wr w' → YieldAt F (n - 1) Try.prog l' #[.int .i64 (c : Int), .int .i64 (shAt l c)] w' fun e W' =>
          (e = .returned (.bool true) ∧ J (pre ++ [⟨c, hlt⟩]) W' ∧ Keep n₀ lo (lo + 1) w' W') ∨ (e = .returned (.bool false) ∧ Jx (pre ++ [⟨c, hlt⟩]) W')) := fun w' hb =>
        hY pre ⟨c, hlt⟩ w' (HJB.out w' hb) (by omega)
      obtain ⟨a, ha⟩ : ∃ a, wdAt l c = a := ⟨_, rfl⟩
      obtain ⟨s, hs⟩ : ∃ s, stAt l c = s := ⟨_, rfl⟩
      obtain ⟨q, hq⟩ : ∃ q, shAt l c = q := ⟨_, rfl⟩
      obtain ⟨d, hd⟩ : ∃ d, odAt l c = d := ⟨_, rfl⟩
      rw [ha] at c0
      rw [hs] at c1
      rw [hq] at c2 HY
      rw [hd] at c3
      clear ha hs hq hd
      obtain ⟨fn, tmps, assign, body, hy, hR⟩ := HY.out (wr.alloc (.cells #[.int .i64 a, .int .i64 s, .int .i64 q, .int .i64 d] 64)) (HAL.out _)
      have HR := Lib.hid hR
      clear hR
      gi_wp2
      refine HR.out.mono ?_
      rintro e W3 (⟨rfl, hJ3, hk3⟩ | ⟨rfl, hJx3⟩)
      · gi_wp2
        go_roundw
        case rel => exact ⟨c + 1, by omega, by go_num, ⟨_, by rw [List.range_succ, List.map_append, HPRE.out]; rfl, hJ3⟩, (HNX.out.trans (Keep.of_below (HAL.out _) (by omega) hlow)).trans hk3, by have := (HAL.out (.cells #[.int .i64 a, .int .i64 s, .int .i64 q, .int .i64 d] 64)).size; have := hk3.below.size; omega⟩
        case measure => simp [intOf]; omega
      · gi_wp2
        refine bodyPost_ret (results_none rfl _ _ _) rfl ?_
        exact ⟨⟨_, rfl⟩, .inr ⟨_, trivial, hJx3⟩⟩
    · obtain rfl : c = l.length := by omega
      gi_wp2
      go_end0
      exact ⟨⟨_, rfl⟩, .inl ⟨_, HPRE.out, hJs⟩⟩
theorem strs_stops (F : Fence) (n : Nat) (hF : F = Fence.wide) (hn : 1 ≤ n) (lo n₀ cap : Nat) (A : Option Addr) (l : List Gl) (o : Int) (h2 : l.length ≤ 200) (w : World) (hn₀ : n₀ ≤ lo)
    (bS : Boxed w lo 23 (.slice A l.length cap)) (bO : Boxed w (lo + 1) 3 (.int .i64 o)) (hP : Gls w n₀ A l) :
    SeqStopsK F n Try.prog 72 #[.pointer (some ⟨lo, 0, none⟩), .pointer (some ⟨lo + 1, 0, none⟩)] (fun x : OEl l o => #[.int .i64 (x.val : Int), .int .i64 (stAt l x.val)]) (Keep n₀ lo (lo + 2))
      (fun ys => ys.map Subtype.val = pickO l o l.length) (fun _ => True) l.length w := fun l' J Jx W hW hJ _ hY h0 =>
  strs1_in F n hF hn l' lo n₀ cap A l o h2 J Jx hn₀ W hJ hY ((hW.block lo bS.lt).trans bS) ((hW.block _ bO.lt).trans bO) (hP.below (hW.mono (by have := bS.lt; omega))) h0
theorem shrs_stops (F : Fence) (n : Nat) (hF : F = Fence.wide) (hn : 1 ≤ n) (lo n₀ cap : Nat) (A : Option Addr) (l : List Gl) (h2 : l.length ≤ 200) (w : World) (hn₀ : n₀ ≤ lo)
    (bS : Boxed w lo 23 (.slice A l.length cap)) (hP : Gls w n₀ A l) :
    SeqStopsK F n Try.prog 73 #[.pointer (some ⟨lo, 0, none⟩)] (fun x : AEl l => #[.int .i64 (x.val : Int), .int .i64 (shAt l x.val)]) (Keep n₀ lo (lo + 1))
      (fun ys => ys.map Subtype.val = List.range l.length) (fun _ => True) l.length w := fun l' J Jx W hW hJ _ hY h0 =>
  shrs1_in F n hF hn l' lo n₀ cap A l h2 J Jx hn₀ W hJ hY ((hW.block lo bS.lt).trans bS) (hP.below (hW.mono (by have := bS.lt; omega))) h0
end Go.Proofs.Ytjckbdbjcgjcaaa.Gu
