/- The legal lines from a piece on, handed to a loop one after the other. -/
import Derived.Test.YtkamffjncndabaaKit
namespace Go.Proofs.Ytkamffjncndabaa
open Go.RowKit
attribute [local go_sem] Oper.semAt_some
set_option maxHeartbeats 1000000 in
theorem plines_in (F : Fence) (n : Nat) (hF : F = Fence.wide) (A : Option Addr) (len c : Nat) (wd ind : Int) (i : Nat) (w : World) (q1 : 1 ≤ wd) (q2 : wd ≤ 10000000) (q3 : 0 ≤ ind) (q4 : ind < wd) :
    CallsIn F n Try.prog 43 #[.agg #[.slice A len c, .int .i64 wd, .int .i64 ind], .int .i64 (i : Int)] w fun e w' =>
      e = .returned (.func (.func 48) #[] #[.pointer (some ⟨w.heap.size + 1, 0, none⟩), .pointer (some ⟨w.heap.size, 0, none⟩), .pointer (some ⟨w.heap.size + 2, 0, none⟩)]) ∧
      w' = ((w.alloc (.cells #[.slice A len c, .int .i64 wd, .int .i64 ind] 67)).alloc (.cells #[.int .i64 (i : Int)] 3)).alloc (.cells #[.int .i64 (widAt wd ind i)] 3) := by
  have hro : F.round = none := by rw [hF]; rfl
  have hfn : F.fn 43 := by rw [hF]; trivial
  clear hF
  by_cases h : 0 < i
  · have HW := Lib.hid (wid_more (w := wd) (ind := ind) h)
    refine callsIn_of_wp Try.func43 rfl hfn ?_ hro
    simp only [Try.ntmps43, List.size_toArray, List.length_cons, List.length_nil, Nat.reduceAdd, Nat.reduceSub, Array.replicate_succ, Array.replicate_zero, List.push_toArray, List.append_toArray, List.nil_append, List.cons_append]
    gi_wp2
    go_ret
    rw [HW.out]
    exact ⟨rfl, rfl⟩
  · have HW := Lib.hid (wid_first (w := wd) (ind := ind) h)
    refine callsIn_of_wp Try.func43 rfl hfn ?_ hro
    simp only [Try.ntmps43, List.size_toArray, List.length_cons, List.length_nil, Nat.reduceAdd, Nat.reduceSub, Array.replicate_succ, Array.replicate_zero, List.push_toArray, List.append_toArray, List.nil_append, List.cons_append]
    gi_wp2
    go_ret
    rw [HW.out]
    exact ⟨rfl, rfl⟩
/-- The ends of the legal lines from i on, of the first c that there are. -/
def legsL (G : Nat → Nat → Bool) (i : Nat) : Nat → List Nat
  | 0 => []
  | c + 1 => if G i (i + 1 + c) = true then legsL G i c ++ [i + 1 + c] else legsL G i c
theorem legsL_len (G : Nat → Nat → Bool) (i : Nat) : ∀ c : Nat, (legsL G i c).length ≤ c
  | 0 => Nat.le_refl _
  | c + 1 => by
    have := legsL_len G i c
    unfold legsL
    split
    · simp; omega
    · omega
/-- An end of a legal line from i on, of n pieces. -/
abbrev LEnd (G : Nat → Nat → Bool) (i n : Nat) := { j : Nat // i < j ∧ j ≤ n ∧ G i j = true }

theorem line_call (A : Option Addr) (cap : Nat) (ps : List Pc) (wd ind : Int) (i c : Nat) (w : World) (hc : i + 1 + c ≤ ps.length) (hv : validB ps = true) (hf : fitsB wd ind = true) (hP : Pcs w w.heap.size A ps) {r : Bool} (hr : gG ps wd ind i (i + 1 + c) = r) :
    Calls Try.prog 39 #[.slice A ps.length cap, .int .i64 (i : Int), .int .i64 ((i : Int) + (c : Int) + 1), .int .i64 (widAt wd ind i)] w fun e w' =>
      e = .returned (.tuple #[.int .i64 (bif r then cC ps wd ind i (i + 1 + c) else 0), .int .i64 (bif r then 0 else 6)]) ∧ Below w.heap.size w w' := by
  have hw := widAt_bound hf i
  have e1 : ((i : Int) + (c : Int) + 1).toNat = i + 1 + c := by omega
  have := Line_in A cap ps (i : Int) ((i : Int) + (c : Int) + 1) (widAt wd ind i) w (by omega) (by omega) (by omega) hw.1 hw.2 hv hP (r := r) (by rw [Int.toNat_natCast, e1]; exact hr)
  rw [Int.toNat_natCast, e1] at this
  exact this
theorem legs_yes {G : Nat → Nat → Bool} {i c : Nat} (h : G i (i + 1 + c) = true) : legsL G i (c + 1) = legsL G i c ++ [i + 1 + c] := by rw [legsL, if_pos h]
theorem legs_no {G : Nat → Nat → Bool} {i c : Nat} (h : G i (i + 1 + c) = false) : legsL G i (c + 1) = legsL G i c := by rw [legsL, if_neg (by rw [h]; simp)]

set_option maxRecDepth 100000 in
set_option maxHeartbeats 4000000 in
theorem plines1_in (F : Fence) (n : Nat) (hF : F = Fence.wide) (hn : 1 ≤ n) (l lo n₀ i cap : Nat) (A : Option Addr) (ps : List Pc) (wd ind : Int) (hi : i < ps.length) (hv : validB ps = true) (hf : fitsB wd ind = true) (J Jx : List (LEnd (gG ps wd ind) i ps.length) → World → Prop) (hn₀ : n₀ ≤ lo)
    (W : World) (hJ : AbidesFrom W.heap.size J)
    (hY : ∀ pre x W, J pre W → pre.length < ps.length - i → YieldAt F (n - 1) Try.prog l #[.int .i64 (x.val : Int), .int .i64 (cC ps wd ind i x.val)] W fun e W' =>
      (e = .returned (.bool true) ∧ J (pre ++ [x]) W' ∧ Keep n₀ lo (lo + 3) W W') ∨ (e = .returned (.bool false) ∧ Jx (pre ++ [x]) W'))
    (bP : W.heap[lo]? = some (.cells #[.slice A ps.length cap, .int .i64 wd, .int .i64 ind] 67 (0, 0))) (bI : Boxed W (lo + 1) 3 (.int .i64 (i : Int))) (bW : Boxed W (lo + 2) 3 (.int .i64 (widAt wd ind i))) (hP : Pcs W n₀ A ps) (h0 : J [] W) :
    CallsIn F n Try.prog 48 #[.func (.yield l) #[] #[], .pointer (some ⟨lo + 1, 0, none⟩), .pointer (some ⟨lo, 0, none⟩), .pointer (some ⟨lo + 2, 0, none⟩)] W fun e W' => (∃ v, e = .returned v) ∧
      ((∃ ys, ys.map Subtype.val = legsL (gG ps wd ind) i (ps.length - i) ∧ J ys W') ∨ (∃ pre, True ∧ Jx pre W')) := by
  have hro : F.round = none := by rw [hF]; rfl
  have hfn : ∀ k, F.fn k := fun k => by rw [hF]; trivial
  have HF := Lib.hid hF
  clear hF
  have h64 := (validB_iff.1 hv).1.2
  have hwid := widAt_bound hf i
  have HV := Lib.hid hv
  have HP := Lib.hid hP
  clear hv hP
  have eI := bI.cell
  refine callsIn_of_wp Try.func48 rfl (hfn _) ?_ hro
  simp only [Try.ntmps48, List.size_toArray, List.length_cons, List.length_nil, Nat.reduceAdd, Nat.reduceSub, Array.replicate_succ, Array.replicate_zero, List.push_toArray, List.append_toArray, List.nil_append, List.cons_append]
  gi_wp2
  gi_loopw [5] (fun q wr => ∃ c : Nat, c ≤ ps.length - i ∧ q = .int .i64 ((i : Int) + (c : Int) + 1) ∧ (∃ pre, pre.map Subtype.val = legsL (gG ps wd ind) i c ∧ J pre wr) ∧ Keep n₀ lo (lo + 3) W wr ∧ W.heap.size ≤ wr.heap.size)
    (fun q _ => ps.length + 1 - (intOf q).toNat)
  case atStart => exact ⟨0, Nat.zero_le _, by simp, ⟨[], rfl, h0⟩, Keep.refl _ _ _ _, Nat.le_refl _⟩
  case round =>
    obtain ⟨c, hcN, rfl, ⟨pre, hpre, hJs⟩, hnx, hsz⟩ := hrel
    have HNX := Lib.hid hnx
    have HPRE := Lib.hid hpre
    have hplen : pre.length ≤ c := by
      have := congrArg List.length hpre
      rw [List.length_map] at this
      have := legsL_len (gG ps wd ind) i c
      omega
    have bP' : wr.heap[lo]? = some (.cells #[.slice A ps.length cap, .int .i64 wd, .int .i64 ind] 67 (0, 0)) := (hnx.at_ lo (Nat.le_refl _) (by omega)).trans bP
    have e0 : wr.cell? ⟨lo, 0, none⟩ = some (.slice A ps.length cap) := cell_of_row wr lo 0 _ _ _ bP'
    have eI' := (hnx.boxed bI (by omega) (by omega)).cell
    have eW' := (hnx.boxed bW (by omega) (by omega)).cell
    clear hpre eI hnx
    by_cases hlt : c < ps.length - i
    · have hlow : lo + 3 ≤ wr.heap.size := by have := bW.lt; omega
      have HPW : Hid (Pcs wr wr.heap.size A ps) := (HP.out.below HNX.out.below).mono (by omega)
      obtain ⟨r, hr⟩ : ∃ r, gG ps wd ind i (i + 1 + c) = r := ⟨_, rfl⟩
      have HG := Lib.hid hr
      clear hr bP'
      have HJB : Hid (∀ w', Below wr.heap.size wr w' → J pre w') := fun w' hb => hJ pre wr w' none hJs (grown_new hb) (fun _ e => by cases e)
      cases r
      · gi_wp2_with (gi_at_call 39; refine (inWide HF.out (line_call _ _ ps wd ind i c _ (by omega) HV.out hf HPW.out HG.out)).mono ?_; rintro e w1 ⟨rfl, hb1⟩)
        go_roundw
        case rel => exact ⟨c + 1, by omega, by go_num, ⟨pre, by rw [legs_no HG.out]; exact HPRE.out, HJB.out _ hb1⟩, HNX.out.trans (Keep.of_below hb1 (by omega) hlow), by have := hb1.size; omega⟩
        case measure => simp [intOf]; omega
      · have HY : Hid (∀ w', Below wr.heap.size wr w' → YieldAt F (n - 1) Try.prog l #[.int .i64 ((i : Int) + (c : Int) + 1), .int .i64 (cC ps wd ind i (i + 1 + c))] w' fun e W' =>
            (e = .returned (.bool true) ∧ J (pre ++ [⟨i + 1 + c, by omega, by omega, HG.out⟩]) W' ∧ Keep n₀ lo (lo + 3) w' W') ∨ (e = .returned (.bool false) ∧ Jx (pre ++ [⟨i + 1 + c, by omega, by omega, HG.out⟩]) W')) := fun w' hb => by
          have := hY pre ⟨i + 1 + c, by omega, by omega, HG.out⟩ w' (HJB.out w' hb) (by omega)
          have e : ((i + 1 + c : Nat) : Int) = (i : Int) + (c : Int) + 1 := by omega
          dsimp only at this
          rw [e] at this
          exact this
        gi_wp2_with (gi_at_call 39; refine (inWide HF.out (line_call _ _ ps wd ind i c _ (by omega) HV.out hf HPW.out HG.out)).mono ?_; rintro e w1 ⟨rfl, hb1⟩; obtain ⟨fn, tmps, assign, body, hy, hR⟩ := HY.out w1 hb1; have HR := Lib.hid hR; clear hR; simp only [cond_true])
        refine HR.out.mono ?_
        rintro e W3 (⟨rfl, hJ3, hk3⟩ | ⟨rfl, hJx3⟩)
        · gi_wp2
          go_roundw
          case rel => exact ⟨c + 1, by omega, by go_num, ⟨_, by rw [legs_yes HG.out, List.map_append, HPRE.out]; rfl, hJ3⟩, (HNX.out.trans (Keep.of_below hb1 (by omega) hlow)).trans hk3, by have := hb1.size; have := hk3.below.size; omega⟩
          case measure => simp [intOf]; omega
        · gi_wp2
          refine bodyPost_ret (results_none rfl _ _ _) rfl ?_
          exact ⟨⟨_, rfl⟩, .inr ⟨_, trivial, hJx3⟩⟩
    · have HP2 : Hid (pre.map Subtype.val = legsL (gG ps wd ind) i (ps.length - i)) := by
        obtain rfl : c = ps.length - i := by omega
        exact HPRE.out
      have hcc : ¬ ((i : Int) + (c : Int) + 1 ≤ (ps.length : Int)) := by omega
      gi_wp2
      go_end0
      exact ⟨⟨_, rfl⟩, .inl ⟨_, HP2.out, hJs⟩⟩
end Go.Proofs.Ytkamffjncndabaa
