/- The law's own question. -/
import Derived.Test.YtonahgdchngabaaPkAwakeA
import Derived.Test.YtonahgdchngabaaPkBCen
namespace Go.Proofs.Ytonahgdchngabaa
open Go.RowKit
def exQ : List Q5 := exL.map fun t => ⟨t, none, 0, none, 0⟩
/-- The world in which the example's rows lie. -/
abbrev exW (w : World) : World := (w.alloc (.cells (rowC exQ).toArray 27)).alloc (.cells #[.int .i64 0, .int .i64 2, .int .i64 1] 3)
theorem ex_mem (w : World) : Kids (exW w) 0 (exW w).heap.size (some ⟨w.heap.size, 0, none⟩) exL ∧ Ints (exW w) 0 (exW w).heap.size (some ⟨w.heap.size + 1, 0, none⟩) exG ∧ Below w.heap.size w (exW w) := by
  have h0 := blk_more (blk_new w (.cells (rowC exQ).toArray 27)) (.cells #[.int .i64 0, .int .i64 2, .int .i64 1] 3)
  have h1 := blk_new (w.alloc (.cells (rowC exQ).toArray 27)) (.cells #[.int .i64 0, .int .i64 2, .int .i64 1] 3)
  rw [World.size_alloc] at h1
  refine ⟨?_, fun _ => ⟨_, 0, rfl, Nat.zero_le _, by simp, fun k hk => ?_⟩, two_below _ _ _⟩
  · refine kids_row (Q := exQ) (fun k u hu => ?_) (Nat.zero_le _) (by simp; omega) fun q hq => ?_
    · rw [Nat.zero_add]
      exact blk_cell h0 k u (by simpa using hu)
    · obtain ⟨t, ht, rfl⟩ := List.mem_map.1 hq
      have hk : t.kids = [] ∧ t.src = [] := by
        simp only [exL, List.mem_cons, List.not_mem_nil, or_false] at ht
        rcases ht with rfl | rfl | rfl <;> exact ⟨rfl, rfl⟩
      have hn : t.nm.size ≤ lenMax := by
        simp only [exL, List.mem_cons, List.not_mem_nil, or_false] at ht
        rcases ht with rfl | rfl | rfl <;> exact Nat.zero_le _
      refine ⟨?_, ?_, ?_⟩
      · show Kids _ _ _ none t.kids
        rw [hk.1]; exact Kids.nil _ _ _ _
      · show Ints _ _ _ none t.src
        rw [hk.2]; exact fun h => absurd h (by simp)
      · show lens t
        refine ⟨hn, ?_, ?_⟩
        · rw [hk.2]; exact Nat.zero_le _
        · rw [hk.1]; exact Nat.zero_le _
  · rw [Nat.zero_add]
    match k, hk with
    | 0, _ => exact blk_cell h1 0 _ rfl
    | 1, _ => exact blk_cell h1 1 _ rfl
    | 2, _ => exact blk_cell h1 2 _ rfl
set_option maxRecDepth 100000 in
set_option maxHeartbeats 1500000 in
theorem vawake_any (w : World) : Calls Try.prog 8 #[] w fun e w' => e = .returned (.bool true) ∧ Below w.heap.size w w' := by
  obtain ⟨i1, hi1, hy0, hy1, hy2⟩ := info_parts infoBox
  go_enter Try.func8, Try.ntmps8
  go_wp2_with fail
  refine (lrule_any 4 1 w).mono ?_
  rintro e w1 ⟨rfl, hb1⟩
  have HB1 := Lib.hid hb1
  clear hb1
  go_wp2_with fail
  refine (lrule_any 2 0 w1).mono ?_
  rintro e w2 ⟨rfl, hb2⟩
  have HB2 := Lib.hid (below_next HB1.out hb2)
  clear hb2
  go_wp2_with fail
  refine (lrule_any 3 3 w2).mono ?_
  rintro e w3 ⟨rfl, hb3⟩
  have HB3 := Lib.hid (below_next HB2.out hb3)
  clear hb3
  go_wp2_with fail
  have hx := ex_mem w3
  change Calls Try.prog _ #[.slice (some ⟨w3.heap.size, 0, none⟩) exL.length 3, .slice (some ⟨w3.heap.size + 1, 0, none⟩) exG.length 3, .int .i64 1] (exW w3) _
  have hcL : cntL exL ≤ 1000 := by
    have hc : ∀ a b c, cntB (ruleB' a b c) = 1 := fun a b c => by rw [cntB_eq]; show 1 + cntL [] = 1; rw [cntL_nil]
    show cntL [_, _, _] ≤ _
    rw [cntL_cons, cntL_cons, cntL_cons, hc, hc, hc, cntL_nil]
    omega
  refine (column_any (some ⟨w3.heap.size, 0, none⟩) exL 3 (some ⟨w3.heap.size + 1, 0, none⟩) exG 3 1 (exW w3) hcL (by decide) hx.1 hx.2.1).mono ?_
  rintro e w4 ⟨⟨A2, c2, rfl, hk4⟩, hb4⟩
  have HB4 : Hid (Below w.heap.size w w4) := below_next (below_next HB3.out hx.2.2) hb4
  rw [ex_colE.1, ex_colE.2]
  rw [ex_colE.2] at hk4
  have hlen : exB.kids.length = 3 := rfl
  obtain ⟨kb, ko, B1, d1, B2, d2, rfl, _, hkb, hat0, -⟩ := hk4.at (i := 0) (by rw [hlen]; omega)
  obtain ⟨kb', ko', B1', d1', B2', d2', hee, _, _, hat2, -⟩ := hk4.at (i := 2) (by rw [hlen]; omega)
  injection hee with hee
  injection hee with he1 he2
  subst he1 he2
  have y0 := hat0 7 (by omega)
  have y2 := hat2 7 (by omega)
  have HY0 : Hid (w4.cell? ⟨kb, ko + 7, none⟩ = some (.int .i64 5)) := y0
  have HY2 : Hid (w4.cell? ⟨kb, ko + 22 + 7, none⟩ = some (.int .i64 (-4))) := y2
  have HKB := Lib.hid hkb
  clear hk4 hb4 hx hat0 hat2 y0 y2 hkb
  go_wp2_with fail
  refine (lrule_any 10 4 (w4.alloc (.cells (bxA exB (some ⟨kb, ko, none⟩) c2 none 0) 27))).mono ?_
  rintro e w6 ⟨rfl, hb6⟩
  have HB5 : Hid (Below w4.heap.size w4 w6) := below_next (one_below _ _) hb6
  have HD5 : Hid (w6.heap[w4.heap.size]? = some (.cells (bxA exB (some ⟨kb, ko, none⟩) c2 none 0) 27 (0, 0))) := (hb6.block _ (by simp)).trans (blk_new w4 _)
  clear hb6
  go_wp2_with fail
  refine (center_any (ruleB' 9 10 4) none 0 none 0 25 w6 ⟨Nat.zero_le _, Nat.zero_le _, Nat.zero_le _⟩ (by rw [cntB_eq]; show 1 + cntL [] ≤ _; rw [cntL_nil]; omega) (Kids.nil _ _ _ _) (fun h => absurd h (by simp [ruleB', Bx.src]))).mono ?_
  rintro e w7 ⟨⟨A6, c6, A7, c7, rfl, -, -⟩, hb7⟩
  rw [ex_cen.1, ex_cen.2]
  have HB8 : Hid (Below w4.heap.size w4 (w7.alloc (.cells (bxA ((ruleB' 9 10 4).atY 22) A6 c6 A7 c7) 27))) := below_next HB5.out (below_next hb7 (one_below _ _))
  have g1 : (w7.alloc (.cells (bxA ((ruleB' 9 10 4).atY 22) A6 c6 A7 c7) 27)).heap[w4.heap.size]? = some (.cells (bxA exB (some ⟨kb, ko, none⟩) c2 none 0) 27 (0, 0)) := blk_more ((hb7.block _ (Array.getElem?_eq_some_iff.1 HD5.out).1).trans HD5.out) _
  have g2 := blk_new w7 (.cells (bxA ((ruleB' 9 10 4).atY 22) A6 c6 A7 c7) 27)
  have f3 : (w7.alloc (.cells (bxA ((ruleB' 9 10 4).atY 22) A6 c6 A7 c7) 27)).cell? ⟨w4.heap.size, 3, none⟩ = some (.int .i64 9) := blk_cell g1 3 _ rfl
  have f4 : (w7.alloc (.cells (bxA ((ruleB' 9 10 4).atY 22) A6 c6 A7 c7) 27)).cell? ⟨w4.heap.size, 4, none⟩ = some (.int .i64 9) := blk_cell g1 4 _ rfl
  have f5 : (w7.alloc (.cells (bxA ((ruleB' 9 10 4).atY 22) A6 c6 A7 c7) 27)).cell? ⟨w4.heap.size, 5, none⟩ = some (.int .i64 7) := blk_cell g1 5 _ rfl
  have f8 : (w7.alloc (.cells (bxA ((ruleB' 9 10 4).atY 22) A6 c6 A7 c7) 27)).cell? ⟨w4.heap.size, 8, none⟩ = some (.slice (some ⟨kb, ko, none⟩) 3 c2) := blk_cell g1 8 _ rfl
  have f7 : (w7.alloc (.cells (bxA ((ruleB' 9 10 4).atY 22) A6 c6 A7 c7) 27)).cell? ⟨w7.heap.size, 7, none⟩ = some (.int .i64 22) := blk_cell g2 7 _ rfl
  have k0 : (w7.alloc (.cells (bxA ((ruleB' 9 10 4).atY 22) A6 c6 A7 c7) 27)).cell? ⟨kb, ko + 7, none⟩ = some (.int .i64 5) := (HB8.out.cell (p := ⟨kb, ko + 7, none⟩) HKB.out).trans HY0.out
  have k2 : (w7.alloc (.cells (bxA ((ruleB' 9 10 4).atY 22) A6 c6 A7 c7) 27)).cell? ⟨kb, ko + 22 + 7, none⟩ = some (.int .i64 (-4)) := (HB8.out.cell (p := ⟨kb, ko + 22 + 7, none⟩) HKB.out).trans HY2.out
  have HC : Hid (∀ j, j < 11 → (w7.alloc (.cells (bxA ((ruleB' 9 10 4).atY 22) A6 c6 A7 c7) 27)).cell? ⟨w7.heap.size, 0 + j, none⟩ = (bxA ((ruleB' 9 10 4).atY 22) A6 c6 A7 c7)[j]?) := fun j _ => by
    rw [Nat.zero_add]; exact cell_of_row _ _ _ _ _ _ g2
  clear g1 g2 hb7
  go_wp2_with fail
  change Calls Try.prog _ #[.agg (bxA ((ruleB' 9 10 4).atY 22) A6 c6 A7 c7)] (w7.alloc (.cells (bxA ((ruleB' 9 10 4).atY 22) A6 c6 A7 c7) 27)) _
  refine (total_any ((ruleB' 9 10 4).atY 22) A6 c6 A7 c7 (w7.alloc (.cells (bxA ((ruleB' 9 10 4).atY 22) A6 c6 A7 c7) 27))).mono ?_
  rintro e w9 ⟨rfl, hb9⟩
  have HB9 := Lib.hid (below_next HB8.out hb9)
  clear hb9
  have et : IntKind.i64.wrap (((ruleB' 9 10 4).atY 22).h + ((ruleB' 9 10 4).atY 22).d) = 14 := by decide
  rw [et]
  clear et f3 f4 f5 f7 f8 k0 k2
  go_wp2
  go_ret
  exact ⟨rfl, below_next HB4.out HB9.out⟩
end Go.Proofs.Ytonahgdchngabaa
