/- Plain words on shares; the closure that hands them out. -/
import Derived.Test.YtjckbdbjcgjcaaaGluRef
import Derived.Test.YtjckbdbjcgjcaaaM4
namespace Go.Proofs.Ytjckbdbjcgjcaaa.Gu
open Go.RowKit
def mapN (f : Nat → Int) (n : Nat) : List Int := (List.range n).map f
theorem mapN_len (f : Nat → Int) (n : Nat) : (mapN f n).length = n := by simp [mapN]
theorem mapN_succ (f : Nat → Int) (n : Nat) : mapN f (n + 1) = mapN f n ++ [f n] := by unfold mapN; rw [List.range_succ, List.map_append]; rfl
theorem mapN_at (f : Nat → Int) {n k : Nat} (h : k < n) : lAt (mapN f n) k = f k := by simp [lAt, mapN, List.getD, h]
/-- What has been handed out of g ahead of part k, where the parts have the sum T. -/
def cumN (f : Nat → Int) (T g : Int) (k : Nat) : Int := g * sumN f k / T
def shareN (f : Nat → Int) (T g : Int) (k : Nat) : Int := cumN f T g (k + 1) - cumN f T g k
theorem mul_in {g s : Int} (h0 : 0 ≤ g) (h1 : g ≤ 2147483647) (h2 : 0 ≤ s) (h3 : s ≤ 209715200) : 0 ≤ g * s ∧ g * s ≤ 450359962527334400 := by
  refine ⟨Int.mul_nonneg h0 h2, ?_⟩
  have a := Int.mul_le_mul h1 h3 h2 (show (0 : Int) ≤ 2147483647 by omega)
  omega
theorem cum_in {g s T : Int} (h0 : 0 ≤ g) (_h1 : g ≤ 2147483647) (h2 : 0 ≤ s) (h3 : s ≤ T) (h4 : 0 < T) : 0 ≤ g * s / T ∧ g * s / T ≤ g := by
  refine ⟨Int.ediv_nonneg (Int.mul_nonneg h0 h2) (by omega), ?_⟩
  have a : g * s ≤ g * T := Int.mul_le_mul_of_nonneg_left h3 h0
  have b := Int.ediv_le_ediv h4 a
  rw [Int.mul_ediv_cancel _ (by omega)] at b
  exact b
theorem sharer_any (g T : Int) (w : World) :
    Calls Try.prog 54 #[.int .i64 g, .int .i64 T] w fun e w' =>
      e = .returned (.func (.func 71) #[] #[.pointer (some ⟨w.heap.size + 2, 0, none⟩), .pointer (some ⟨w.heap.size, 0, none⟩), .pointer (some ⟨w.heap.size + 1, 0, none⟩), .pointer (some ⟨w.heap.size + 3, 0, none⟩)]) ∧
      w' = (((w.alloc (.cells #[.int .i64 g] 3)).alloc (.cells #[.int .i64 T] 3)).alloc (.cells #[.int .i64 0] 3)).alloc (.cells #[.int .i64 0] 3) := by
  go_enter Try.func54, Try.ntmps54
  go_wp2
  go_ret
  exact ⟨rfl, rfl⟩
set_option maxHeartbeats 1000000 in
theorem share_any (bs bg bT bb : Nat) (s0 g T part : Int) (w : World) (hs : Boxed w bs 3 (.int .i64 s0)) (hg : Boxed w bg 3 (.int .i64 g)) (hT : Boxed w bT 3 (.int .i64 T)) (hb : Boxed w bb 3 (.int .i64 (g * s0 / T))) (d1 : bs ≠ bg) (d2 : bs ≠ bT) (d3 : bs ≠ bb)
    (h0 : 0 ≤ g) (h1 : g ≤ 2147483647) (h2 : 0 ≤ s0) (h3 : 0 ≤ part) (h4 : s0 + part ≤ T) (h5 : 0 < T) (h6 : T ≤ 209715200) :
    Calls Try.prog 71 #[.int .i64 part, .pointer (some ⟨bs, 0, none⟩), .pointer (some ⟨bg, 0, none⟩), .pointer (some ⟨bT, 0, none⟩), .pointer (some ⟨bb, 0, none⟩)] w fun e w' =>
      e = .returned (.int .i64 (g * (s0 + part) / T - g * s0 / T)) ∧ w' = (w.setCell ⟨bs, 0, none⟩ (.int .i64 (s0 + part))).setCell ⟨bb, 0, none⟩ (.int .i64 (g * (s0 + part) / T)) := by
  have m1 := mul_in h0 h1 (show 0 ≤ s0 + part by omega) (show s0 + part ≤ 209715200 by omega)
  have m2 := cum_in h0 h1 (show 0 ≤ s0 + part by omega) h4 h5
  have m3 := cum_in h0 h1 h2 (show s0 ≤ T by omega) h5
  have e1 := hs.cell
  have z1 := hs.frozen
  have e4 := hb.cell
  have z4 := hb.frozen
  have hs' := hs.set (.int .i64 (s0 + part))
  have e2 : (w.setCell ⟨bs, 0, none⟩ (.int .i64 (s0 + part))).cell? ⟨bg, 0, none⟩ = some (.int .i64 g) := (hg.other (Ne.symm d1) _).cell
  have e3 : (w.setCell ⟨bs, 0, none⟩ (.int .i64 (s0 + part))).cell? ⟨bT, 0, none⟩ = some (.int .i64 T) := (hT.other (Ne.symm d2) _).cell
  have e5 : (w.setCell ⟨bs, 0, none⟩ (.int .i64 (s0 + part))).cell? ⟨bb, 0, none⟩ = some (.int .i64 (g * s0 / T)) := (hb.other (Ne.symm d3) _).cell
  have z5 := (hb.other (Ne.symm d3) (.int .i64 (s0 + part))).frozen
  have e6 := hs'.cell
  have s1 : IntKind.i64.wrap (s0 + part) = s0 + part := IntWalk.i64_in _ (by omega)
  have s2 : IntKind.i64.wrap (g * (s0 + part)) = g * (s0 + part) := IntWalk.i64_in _ (by omega)
  have s3 : IntKind.i64.wrap ((g * (s0 + part)).tdiv T) = g * (s0 + part) / T := IntWalk.i64_quo _ _ (by omega)
  have s4 : IntKind.i64.wrap (g * (s0 + part) / T - g * s0 / T) = g * (s0 + part) / T - g * s0 / T := IntWalk.i64_in _ (by omega)
  have s5 : ¬ T = 0 := by omega
  clear m1 m2 m3 hs hg hT hb hs'
  go_enter Try.func71, Try.ntmps71
  go_wp2
  go_ret
  exact ⟨rfl, rfl⟩
end Go.Proofs.Ytjckbdbjcgjcaaa.Gu
