/- The law's own question. -/
import Derived.Test.YtjckbdbjcgjcaaaHpAwakeA
namespace Go.Proofs.Ytjckbdbjcgjcaaa
open Go.RowKit
theorem PPost.now {n₀ : Nat} {R : Bx} {E : Int} {w w' : World} {e : Ending} (h : PPost n₀ R E w e w') : ∃ A2 c2, e = .returned (.tuple #[.agg (bxA R A2 c2 none 0), .int .i64 E]) ∧ Kids w' 0 w'.heap.size A2 R.kids ∧ Below w.heap.size w w' := by
  obtain ⟨⟨A2, c2, he, hk⟩, hb⟩ := h
  exact ⟨A2, c2, he, hk w' (Nat.le_refl _) fun _ _ _ => rfl, hb⟩
def exQ : List Q5 := exL.map fun t => ⟨t, none, 0, none, 0⟩
/-- The world in which the example's rows lie. -/
abbrev exW (w : World) : World := (w.alloc (.cells (rowC exQ).toArray 28)).alloc (.cells #[.int .i64 0, .int .i64 5] 3)
theorem ex_mem (w : World) : Kids (exW w) 0 (exW w).heap.size (some ⟨w.heap.size, 0, none⟩) exL ∧ Ints (exW w) 0 (exW w).heap.size (some ⟨w.heap.size + 1, 0, none⟩) exG ∧ Below w.heap.size w (exW w) := by
  have h0 := blk_more (blk_new w (.cells (rowC exQ).toArray 28)) (.cells #[.int .i64 0, .int .i64 5] 3)
  have h1 := blk_new (w.alloc (.cells (rowC exQ).toArray 28)) (.cells #[.int .i64 0, .int .i64 5] 3)
  rw [World.size_alloc] at h1
  refine ⟨?_, fun _ => ⟨_, 0, rfl, Nat.zero_le _, by simp, fun k hk => ?_⟩, two_below _ _ _⟩
  · refine kids_row (Q := exQ) (fun k u hu => ?_) (Nat.zero_le _) (by simp; omega) fun q hq => ?_
    · rw [Nat.zero_add]
      exact blk_cell h0 k u (by simpa using hu)
    · obtain ⟨t, ht, rfl⟩ := List.mem_map.1 hq
      have hk : t.kids = [] ∧ t.src = [] := by
        simp only [exL, List.mem_cons, List.not_mem_nil, or_false] at ht
        rcases ht with rfl | rfl <;> exact ⟨rfl, rfl⟩
      have hn : t.nm.size ≤ lenMax := by
        simp only [exL, List.mem_cons, List.not_mem_nil, or_false] at ht
        rcases ht with rfl | rfl <;> exact Nat.zero_le _
      refine ⟨?_, ?_, ?_⟩
      · show Kids _ _ _ none t.kids
        rw [hk.1]; exact Kids.nil _ _ _ _
      · show Ints _ _ _ none t.src
        rw [hk.2]; exact fun h => absurd h (by simp)
      · show lens t
        refine ⟨hn, ?_, ?_⟩
        · rw [hk.2]; exact Nat.zero_le _
        · rw [hk.1]; exact Nat.zero_le _
  · rw [Nat.zero_add]
    match k, hk with
    | 0, _ => exact blk_cell h1 0 _ rfl
    | 1, _ => exact blk_cell h1 1 _ rfl
set_option maxRecDepth 100000 in
set_option maxHeartbeats 1500000 in
theorem hawake_any (w : World) : Calls Try.prog 10 #[] w fun e w' => e = .returned (.bool true) ∧ Below w.heap.size w w' := by
  obtain ⟨i1, hi1, hy0, hy1, hy2⟩ := info_parts infoBox
  go_enter Try.func10, Try.ntmps10
  go_wp2_with fail
  refine (lrule_any 10 4 0 w).mono ?_
  rintro e w1 ⟨rfl, hb1⟩
  have HB1 := Lib.hid hb1
  clear hb1
  go_wp2_with fail
  refine (lrule_any 6 2 3 w1).mono ?_
  rintro e w3 ⟨rfl, hb3⟩
  have HB3 := Lib.hid (below_next HB1.out hb3)
  clear hb3
  go_wp2_with fail
  have hx := ex_mem w3
  change Calls Try.prog _ #[.slice (some ⟨w3.heap.size, 0, none⟩) exL.length 2, .slice (some ⟨w3.heap.size + 1, 0, none⟩) exG.length 2] (exW w3) _
  refine (hrow_any (some ⟨w3.heap.size, 0, none⟩) exL 2 (some ⟨w3.heap.size + 1, 0, none⟩) exG 2 (exW w3) (by rw [ex_cnt]; omega) (by decide) hx.1 hx.2.1).mono ?_
  rintro e w4 hp4
  obtain ⟨A2, c2, rfl, hk4, hb4⟩ := hp4.now
  have HB4 : Hid (Below w.heap.size w w4) := below_next (below_next HB3.out hx.2.2) hb4
  rw [ex_row.1, ex_row.2]
  rw [ex_row.2] at hk4
  have hlen : exB.kids.length = 2 := rfl
  obtain ⟨kb, ko, B1, d1, B2, d2, rfl, _, hkb, hat1, -⟩ := hk4.at (i := 1) (by rw [hlen]; omega)
  have HY1 : Hid (w4.cell? ⟨kb, ko + 11 + 6, none⟩ = some (.int .i64 15)) := hat1 6 (by omega)
  have HKB := Lib.hid hkb
  clear hk4 hb4 hx hat1 hkb hp4 hlen
  go_wp2_with fail
  refine (lrule_any 7 1 0 (w4.alloc (.cells (bxA exB (some ⟨kb, ko, none⟩) c2 none 0) 28))).mono ?_
  rintro e w6 ⟨rfl, hb6⟩
  have HB5 : Hid (Below w4.heap.size w4 w6) := below_next (one_below _ _) hb6
  have HD5 : Hid (w6.heap[w4.heap.size]? = some (.cells (bxA exB (some ⟨kb, ko, none⟩) c2 none 0) 28 (0, 0))) := (hb6.block _ (by simp)).trans (blk_new w4 _)
  clear hb6
  go_wp2_with fail
  refine (halign_any (ruleB' 7 1 0) none 0 none 0 12 1 w6 ⟨Nat.zero_le _, Nat.zero_le _, Nat.zero_le _⟩ (by rw [rule_cnt]; omega) (Kids.nil _ _ _ _) (fun h => absurd h (by simp [ruleB', Bx.src]))).mono ?_
  rintro e w7 hp7
  obtain ⟨A6, c6, rfl, hk7, hb7⟩ := hp7.now
  rw [ex_al.1, ex_al.2]
  rw [ex_al.2] at hk7
  have hlen7 : exC.kids.length = 1 := rfl
  obtain ⟨qb, qo, B3, d3, B4, d4, rfl, _, hqb, hat7, -⟩ := hk7.at (i := 0) (by rw [hlen7]; omega)
  have hq0 : w7.cell? ⟨qb, qo + 6, none⟩ = some (.int .i64 3) := hat7 6 (by omega)
  have HB8 : Hid (Below w4.heap.size w4 (w7.alloc (.cells (bxA exC (some ⟨qb, qo, none⟩) c6 none 0) 28))) := below_next HB5.out (below_next hb7 (one_below _ _))
  have g1 : (w7.alloc (.cells (bxA exC (some ⟨qb, qo, none⟩) c6 none 0) 28)).heap[w4.heap.size]? = some (.cells (bxA exB (some ⟨kb, ko, none⟩) c2 none 0) 28 (0, 0)) := blk_more ((hb7.block _ (Array.getElem?_eq_some_iff.1 HD5.out).1).trans HD5.out) _
  have g2 := blk_new w7 (.cells (bxA exC (some ⟨qb, qo, none⟩) c6 none 0) 28)
  obtain ⟨w8, hw8⟩ : ∃ w8, w7.alloc (.cells (bxA exC (some ⟨qb, qo, none⟩) c6 none 0) 28) = w8 := ⟨_, rfl⟩
  have k0 : w8.cell? ⟨qb, qo + 6, none⟩ = some (.int .i64 3) := by rw [← hw8]; exact ((one_below w7 _).cell (p := ⟨qb, qo + 6, none⟩) hqb).trans hq0
  rw [hw8] at g1 g2 HB8
  have f3 : w8.cell? ⟨w4.heap.size, 3, none⟩ = some (.int .i64 21) := blk_cell g1 3 _ rfl
  have f4 : w8.cell? ⟨w4.heap.size, 4, none⟩ = some (.int .i64 4) := blk_cell g1 4 _ rfl
  have f5 : w8.cell? ⟨w4.heap.size, 5, none⟩ = some (.int .i64 3) := blk_cell g1 5 _ rfl
  have f8 : w8.cell? ⟨w4.heap.size, 8, none⟩ = some (.slice (some ⟨kb, ko, none⟩) 2 c2) := blk_cell g1 8 _ rfl
  have h3 : w8.cell? ⟨w7.heap.size, 3, none⟩ = some (.int .i64 12) := blk_cell g2 3 _ rfl
  have h8 : w8.cell? ⟨w7.heap.size, 8, none⟩ = some (.slice (some ⟨qb, qo, none⟩) 1 c6) := blk_cell g2 8 _ rfl
  have k1 : w8.cell? ⟨kb, ko + 11 + 6, none⟩ = some (.int .i64 15) := (HB8.out.cell (p := ⟨kb, ko + 11 + 6, none⟩) HKB.out).trans HY1.out
  clear g1 g2 hb7 hp7 hk7 hat7 hq0 hlen7
  go_wp2
  go_ret
  exact ⟨rfl, below_next HB4.out HB8.out⟩
end Go.Proofs.Ytjckbdbjcgjcaaa
