/- All pairs of beginnings and ends, handed to a loop one after the other. -/
import Derived.Test.YtkamffjncndabaaCertDem
namespace Go.Proofs.Ytkamffjncndabaa
open Go.RowKit
attribute [local go_sem] Oper.semAt_some
set_option maxHeartbeats 1000000 in
theorem clines_in (F : Fence) (n : Nat) (hF : F = Fence.wide) (A : Option Addr) (len c : Nat) (wd ind : Int) (w : World) :
    CallsIn F n Try.prog 25 #[.agg #[.slice A len c, .int .i64 wd, .int .i64 ind]] w fun e w' =>
      e = .returned (.func (.func 38) #[] #[.pointer (some ⟨w.heap.size, 0, none⟩)]) ∧
      w' = w.alloc (.cells #[.slice A len c, .int .i64 wd, .int .i64 ind] 54) := by
  have hro : F.round = none := by rw [hF]; rfl
  have hfn : F.fn 25 := by rw [hF]; trivial
  clear hF
  refine callsIn_of_wp Try.func25 rfl hfn ?_ hro
  simp only [Try.ntmps25, List.size_toArray, List.length_cons, List.length_nil, Nat.reduceAdd, Nat.reduceSub, Array.replicate_succ, Array.replicate_zero, List.push_toArray, List.append_toArray, List.nil_append, List.cons_append]
  gi_wp2
  go_ret
  exact ⟨rfl, rfl⟩
def rowL (i : Nat) : Nat → List (Nat × Nat)
  | 0 => []
  | c + 1 => rowL i c ++ [(i, i + 1 + c)]
def pairsL (n : Nat) : Nat → List (Nat × Nat)
  | 0 => []
  | d + 1 => pairsL n d ++ rowL (n - 1 - d) (d + 1)
theorem rowL_len (i : Nat) : ∀ c, (rowL i c).length = c
  | 0 => rfl
  | c + 1 => by unfold rowL; rw [List.length_append, rowL_len i c]; rfl
theorem pairsL_len (n : Nat) : ∀ d, d ≤ n → (pairsL n d).length ≤ d * n
  | 0, _ => Nat.zero_le _
  | d + 1, h => by
    have ih := pairsL_len n d (by omega)
    unfold pairsL
    rw [List.length_append, rowL_len, Nat.succ_mul]
    omega
/-- A beginning and an end of a line of n pieces. -/
abbrev PE (n : Nat) := { x : Nat × Nat // x.1 < x.2 ∧ x.2 ≤ n }
set_option maxRecDepth 100000 in
set_option maxHeartbeats 4000000 in
theorem clines1_in (F : Fence) (n : Nat) (hF : F = Fence.wide) (hn : 1 ≤ n) (l lo n₀ len cap : Nat) (A : Option Addr) (wd ind : Int) (h64 : len ≤ 64) (J Jx : List (PE len) → World → Prop) (hn₀ : n₀ ≤ lo)
    (W : World)
    (hY : ∀ pre x W, J pre W → pre.length < len * len → YieldAt F (n - 1) Try.prog l #[.int .i64 (x.val.1 : Int), .int .i64 (x.val.2 : Int)] W fun e W' =>
      (e = .returned (.bool true) ∧ J (pre ++ [x]) W' ∧ Keep n₀ lo (lo + 1) W W') ∨ (e = .returned (.bool false) ∧ Jx (pre ++ [x]) W'))
    (bP : W.heap[lo]? = some (.cells #[.slice A len cap, .int .i64 wd, .int .i64 ind] 54 (0, 0))) (h0 : J [] W) :
    CallsIn F n Try.prog 38 #[.func (.yield l) #[] #[], .pointer (some ⟨lo, 0, none⟩)] W fun e W' => (∃ v, e = .returned v) ∧
      ((∃ ys, ys.map Subtype.val = pairsL len len ∧ J ys W') ∨ (∃ pre, True ∧ Jx pre W')) := by
  have hro : F.round = none := by rw [hF]; rfl
  have hfn : ∀ k, F.fn k := fun k => by rw [hF]; trivial
  have HF := Lib.hid hF
  clear hF
  have e0 : W.cell? ⟨lo, 0, none⟩ = some (.slice A len cap) := cell_of_row W lo 0 _ _ _ bP
  clear bP
  refine callsIn_of_wp Try.func38 rfl (hfn _) ?_ hro
  simp only [Try.ntmps38, List.size_toArray, List.length_cons, List.length_nil, Nat.reduceAdd, Nat.reduceSub, Array.replicate_succ, Array.replicate_zero, List.push_toArray, List.append_toArray, List.nil_append, List.cons_append]
  gi_wp2
  clear e0
  gi_loopw [4] (fun q wr => ∃ d : Nat, d ≤ len ∧ q = .int .i64 ((len : Int) - 1 - (d : Int)) ∧ ∃ pre, pre.map Subtype.val = pairsL len d ∧ J pre wr)
    (fun q _ => (intOf q + 1).toNat)
  case atStart => exact ⟨0, Nat.zero_le _, by go_num, [], rfl, h0⟩
  case round =>
    obtain ⟨d, hd, rfl, pre, hpre, hJs⟩ := hrel
    have HPRE := Lib.hid hpre
    clear hpre
    by_cases hlt : d < len
    · obtain ⟨i, hi, hid⟩ : ∃ i : Nat, (len : Int) - 1 - (d : Int) = (i : Int) ∧ i = len - 1 - d := ⟨len - 1 - d, by omega, rfl⟩
      rw [hi]
      have hil : i < len := by omega
      have HID := Lib.hid (And.intro hi hid)
      clear hi hid
      obtain ⟨wo, rfl⟩ : ∃ wo : World, wo = wr := ⟨_, rfl⟩
      gi_wp2
      gi_loopw [5] (fun q wr => ∃ c : Nat, c ≤ len - i ∧ q = .int .i64 ((i : Int) + (c : Int) + 1) ∧ ∃ pre, pre.map Subtype.val = pairsL len d ++ rowL i c ∧ J pre wr)
        (fun q _ => len + 1 - (intOf q).toNat)
      case atStart => exact ⟨0, Nat.zero_le _, by simp, pre, by rw [HPRE.out]; simp [rowL], hJs⟩
      case round =>
        obtain ⟨c, hc, rfl, pre2, hpre2, hJ2⟩ := hrel
        have HPRE2 := Lib.hid hpre2
        by_cases hcl : c < len - i
        · have hbd : pre2.length < len * len := by
            have h1 := congrArg List.length hpre2
            rw [List.length_map, List.length_append, rowL_len] at h1
            have h2 := pairsL_len len d (by omega)
            have h3 := HID.out.2
            have h4 : (d + 1) * len ≤ len * len := Nat.mul_le_mul_right len hlt
            rw [Nat.succ_mul] at h4
            omega
          obtain ⟨fn, tmps, assign, body, hy, hR⟩ := hY pre2 ⟨(i, i + 1 + c), by show i < i + 1 + c; omega, by show i + 1 + c ≤ len; omega⟩ wr hJ2 hbd
          have HR := Lib.hid hR
          dsimp only at hy
          rw [show ((i + 1 + c : Nat) : Int) = (i : Int) + (c : Int) + 1 by omega] at hy
          clear hR hpre2 hJ2 hbd
          gi_wp2
          refine HR.out.mono ?_
          rintro e W3 (⟨rfl, hJ3, _⟩ | ⟨rfl, hJx3⟩)
          · gi_wp2
            go_roundw
            case rel => exact ⟨c + 1, by omega, by go_num, _, by rw [List.map_append, HPRE2.out, List.append_assoc]; rfl, hJ3⟩
            case measure => simp [intOf]; omega
          · gi_wp2
            refine bodyPost_ret (results_none rfl _ _ _) rfl ?_
            exact ⟨⟨_, rfl⟩, .inr ⟨_, trivial, hJx3⟩⟩
        · have HFI : Hid (pre2.map Subtype.val = pairsL len (d + 1)) := by
            show _ = _
            have h3 := HID.out.2
            rw [HPRE2.out]
            obtain rfl : c = len - i := by omega
            show _ = pairsL len d ++ rowL (len - 1 - d) (d + 1)
            rw [← h3, show len - i = d + 1 by omega]
          have hcc : ¬ ((i : Int) + (c : Int) + 1 ≤ (len : Int)) := by omega
          clear hpre2
          gi_wp2
          go_roundw
          case rel => exact ⟨d + 1, by omega, by have := HID.out.1; go_num, pre2, HFI.out, hJ2⟩
          case measure => simp [intOf]
    · obtain rfl : d = len := by omega
      rw [show (d : Int) - 1 - (d : Int) = -1 by omega]
      gi_wp2
      go_end0
      exact ⟨⟨_, rfl⟩, .inl ⟨_, HPRE.out, hJs⟩⟩
theorem clines_stops (F : Fence) (n : Nat) (hF : F = Fence.wide) (hn : 1 ≤ n) (lo n₀ len cap : Nat) (A : Option Addr) (wd ind : Int) (h64 : len ≤ 64) (w : World) (hn₀ : n₀ ≤ lo)
    (bP : w.heap[lo]? = some (.cells #[.slice A len cap, .int .i64 wd, .int .i64 ind] 54 (0, 0))) :
    SeqStopsK F n Try.prog 38 #[.pointer (some ⟨lo, 0, none⟩)] (fun x : PE len => #[.int .i64 (x.val.1 : Int), .int .i64 (x.val.2 : Int)]) (Keep n₀ lo (lo + 1))
      (fun ys => ys.map Subtype.val = pairsL len len) (fun _ => True) (len * len) w := fun l J Jx W hW _ _ hY h0 =>
  clines1_in F n hF hn l lo n₀ len cap A wd ind h64 J Jx hn₀ W hY ((hW.block lo (Array.getElem?_eq_some_iff.1 bP).1).trans bP) h0
end Go.Proofs.Ytkamffjncndabaa
