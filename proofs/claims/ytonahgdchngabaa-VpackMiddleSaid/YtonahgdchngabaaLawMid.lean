/- The law on the middle of a centred box: the walk. Printed by gen_lawmid.py. -/
import Derived.Test.YtonahgdchngabaaPkAwake
namespace Go.Proofs.Ytonahgdchngabaa
open Go.RowKit
theorem half_mid (n : Int) : -1 ≤ n - 2 * halfI n ∧ n - 2 * halfI n ≤ 1 := by
  unfold halfI
  split <;> omega
set_option maxRecDepth 100000 in
set_option maxHeartbeats 2500000 in
theorem vpackMiddle_walk (b : Bx) (A : Option Addr) (c : Nat) (A' : Option Addr) (c' : Nat) (ax : Int) (w : World) (hl : lens b) (hK : Kids w 0 w.heap.size A b.kids) (hI : Ints w 0 w.heap.size A' b.src) (ha1 : -32768 ≤ ax) (ha2 : ax ≤ 32767) :
    Calls Try.prog 7 #[.agg (bxA b A c A' c'), .int .i16 ax] w fun e w' => e = .returned (.bool true) ∧ Below w.heap.size w w' := by
  obtain ⟨i1, hi1, hy0, hy1, hy2⟩ := info_parts infoBox
  have HK := Lib.hid (And.intro hK hI)
  have HL := Lib.hid hl
  clear hK hI hl
  have HB0 : Hid (Below w.heap.size w (w.alloc (.cells (bxA b A c A' c') 27))) := one_below _ _
  have HD0 := Lib.hid (blk_new w (.cells (bxA b A c A' c') 27))
  go_enter Try.func7, Try.ntmps7
  go_wp2_with fail
  refine (vawake_any (w.alloc (.cells (bxA b A c A' c') 27))).mono ?_
  rintro e w1 ⟨rfl, hb1⟩
  have HB1 : Hid (Below w.heap.size w w1) := below_next HB0.out hb1
  have HD1 : Hid (w1.heap[w.heap.size]? = some (.cells (bxA b A c A' c') 27 (0, 0))) := (hb1.block _ (by simp)).trans HD0.out
  have HC1 : Hid (∀ j, j < 11 → w1.cell? ⟨w.heap.size, 0 + j, none⟩ = (bxA b A c A' c')[j]?) := fun j _ => by
    rw [Nat.zero_add]; exact cell_of_row _ _ _ _ _ _ HD1.out
  clear hb1 HB0 HD0
  obtain ⟨r, hr⟩ : ∃ r, decide (cntB b ≤ 400) = r := ⟨_, rfl⟩
  have HR := Lib.hid hr
  clear hr
  go_wp2_with ((with_reducible refine at_load 27 ?_); go_loud (refine wpList_load_all i1 11 hi1 hy1 _ Try.underlying27 rfl rfl HC1.out ?_))
  refine (rfew_any b 400 A c A' c' w1 (by omega) HR.out (HK.out.1.next HB1.out)).mono ?_
  rintro e w2 ⟨rfl, hb2⟩
  have HB2 := Lib.hid (below_next HB1.out hb2)
  have HD2 : Hid (w2.heap[w.heap.size]? = some (.cells (bxA b A c A' c') 27 (0, 0))) := (hb2.block _ (Array.getElem?_eq_some_iff.1 HD1.out).1).trans HD1.out
  clear hb2 HC1
  cases r with
  | false =>
    go_wp2
    go_ret
    exact ⟨rfl, HB2.out⟩
  | true =>
    have HCN : Hid (cntB b ≤ 400) := Lib.hid (of_decide_eq_true HR.out)
    clear HR
    obtain ⟨r, hr⟩ := bool_of (validB b)
    have HR := Lib.hid hr
    clear hr
    have x0 : w2.cell? ⟨w.heap.size, 0, none⟩ = some (.int .i64 b.k) := blk_cell HD2.out 0 _ rfl
    have x1 : w2.cell? ⟨w.heap.size, 1, none⟩ = some (.string b.nm) := blk_cell HD2.out 1 _ rfl
    have x2 : w2.cell? ⟨w.heap.size, 2, none⟩ = some (.int .i64 b.sz) := blk_cell HD2.out 2 _ rfl
    have x3 : w2.cell? ⟨w.heap.size, 3, none⟩ = some (.int .i64 b.w) := blk_cell HD2.out 3 _ rfl
    have x4 : w2.cell? ⟨w.heap.size, 4, none⟩ = some (.int .i64 b.h) := blk_cell HD2.out 4 _ rfl
    have x5 : w2.cell? ⟨w.heap.size, 5, none⟩ = some (.int .i64 b.d) := blk_cell HD2.out 5 _ rfl
    have x6 : w2.cell? ⟨w.heap.size, 6, none⟩ = some (.int .i64 b.x) := blk_cell HD2.out 6 _ rfl
    have x7 : w2.cell? ⟨w.heap.size, 7, none⟩ = some (.int .i64 b.y) := blk_cell HD2.out 7 _ rfl
    have x8 : w2.cell? ⟨w.heap.size, 8, none⟩ = some (.slice A b.kids.length c) := blk_cell HD2.out 8 _ rfl
    have x9 : w2.cell? ⟨w.heap.size, 9, none⟩ = some (.int .i64 b.of_) := blk_cell HD2.out 9 _ rfl
    have x10 : w2.cell? ⟨w.heap.size, 10, none⟩ = some (.slice A' b.src.length c') := blk_cell HD2.out 10 _ rfl
    go_wp2_with fail
    change Calls Try.prog _ #[.agg (bxA b A c A' c')] w2 _
    clear x0 x1 x2 x3 x4 x5 x6 x7 x8 x9 x10
    refine (rValid_any b A c A' c' w2 HL.out (by have := HCN.out; omega) HR.out (HK.out.1.next HB2.out) (HK.out.2.next HB2.out)).mono ?_
    rintro e w3 ⟨rfl, hb3⟩
    have HB3 := Lib.hid (below_next HB2.out hb3)
    have HD3 : Hid (w3.heap[w.heap.size]? = some (.cells (bxA b A c A' c') 27 (0, 0))) := (hb3.block _ (Array.getElem?_eq_some_iff.1 HD2.out).1).trans HD2.out
    clear hb3 HB2 HD2
    cases r with
    | false =>
      go_wp2
      go_ret
      exact ⟨rfl, HB3.out⟩
    | true =>
      have HV : Hid (validB b) := HR.out.1 rfl
      clear HR
      obtain ⟨hh, hhh⟩ : ∃ hh, b.h = hh := ⟨_, rfl⟩
      obtain ⟨dd, hdd⟩ : ∃ dd, b.d = dd := ⟨_, rfl⟩
      have b4 : w3.cell? ⟨w.heap.size, 4, none⟩ = some (.int .i64 hh) := by rw [← hhh]; exact blk_cell HD3.out 4 _ rfl
      have b5 : w3.cell? ⟨w.heap.size, 5, none⟩ = some (.int .i64 dd) := by rw [← hdd]; exact blk_cell HD3.out 5 _ rfl
      have HNM := Lib.hid (And.intro hhh hdd)
      clear hhh hdd
      have HC3 : Hid (∀ j, j < 11 → w3.cell? ⟨w.heap.size, 0 + j, none⟩ = (bxA b A c A' c')[j]?) := fun j _ => by
        rw [Nat.zero_add]; exact cell_of_row _ _ _ _ _ _ HD3.out
      have HGO : Hid ((-268435456 ≤ hh ∧ hh ≤ 268435456) ∧ (-268435456 ≤ dd ∧ dd ≤ 268435456) → ∃ y D : Int, (∀ W, Below w.heap.size w W → Calls Try.prog 14 #[.agg (bxA b A c A' c'), .int .i64 ax] W fun e w' => (∃ A2 c2 A3 c3, e = .returned (.tuple #[.agg (bxA (b.atY y) A2 c2 A3 c3), .int .i64 0])) ∧ Below W.heap.size W w') ∧ IntKind.i64.wrap (y + hh) = y + hh ∧ IntKind.i64.wrap (y + hh + y) = y + hh + y ∧ IntKind.i64.wrap (y + hh + y - dd) = y + hh + y - dd ∧ IntKind.i64.wrap (2 * ax) = 2 * ax ∧ IntKind.i64.wrap (y + hh + y - dd - 2 * ax) = D ∧ -1 ≤ D ∧ D ≤ 1) := fun hbd => by
        have hn : rngL (hh - dd) := by unfold rngL; omega
        have hb0 := halfI_bounds hn
        have hm := half_mid (hh - dd)
        have ey : cenY b ax = ax - halfI (hh - dd) := by unfold cenY; rw [HNM.out.1, HNM.out.2]
        have h0 := cenE_0 (ax := ax) HV.out ⟨by unfold rngL; omega, by rw [HNM.out.1, HNM.out.2]; exact hn⟩ (by rw [ey]; unfold rngL; omega)
        rw [ey] at h0
        refine ⟨ax - halfI (hh - dd), (ax - halfI (hh - dd)) + hh + (ax - halfI (hh - dd)) - dd - 2 * ax, fun W hW => ?_, IntWalk.i64_in _ (by omega), IntWalk.i64_in _ (by omega), IntWalk.i64_in _ (by omega), IntWalk.i64_in _ (by omega), IntWalk.i64_in _ (by omega), by omega, by omega⟩
        refine (center_any b A c A' c' ax W HL.out (by have := HCN.out; omega) (HK.out.1.next hW) (HK.out.2.next hW)).mono ?_
        rintro e w' ⟨⟨A2, c2, A3, c3, he, -, -⟩, hb⟩
        rw [h0.1, h0.2] at he
        exact ⟨⟨A2, c2, A3, c3, he⟩, hb⟩
      have sax : IntKind.i64.wrap ax = ax := IntWalk.i64_in _ (by omega)
      rcases Int.lt_trichotomy hh dd with ho | ho | ho
      · have o1 : hh ≤ dd := by omega
        have o2 : ¬ dd < hh := by omega
        have o3 : ¬ dd ≤ hh := by omega
        by_cases hm : 268435456 < dd
        · go_wp2
          go_ret
          exact ⟨rfl, HB3.out⟩
        · by_cases hm2 : hh < -268435456
          · go_wp2
            go_ret
            exact ⟨rfl, HB3.out⟩
          · skip
            obtain ⟨y, D, hgo, s1, s2, s3, s4, s5, q1, q2⟩ := HGO.out (by omega)
            have HG := Lib.hid hgo
            clear hgo
            go_wp2_with ((with_reducible refine at_load 27 ?_); go_loud (refine wpList_load_all i1 11 hi1 hy1 _ Try.underlying27 rfl rfl HC3.out ?_))
            refine (HG.out w3 HB3.out).mono ?_
            rintro e w4 ⟨⟨A4, c4, A5, c5, rfl⟩, hb4⟩
            have HB4 : Hid (Below w.heap.size w (w4.alloc (.cells (bxA (b.atY y) A4 c4 A5 c5) 27))) := below_next (below_next HB3.out hb4) (one_below _ _)
            have d5 : (w4.alloc (.cells (bxA (b.atY y) A4 c4 A5 c5) 27)).heap[w.heap.size]? = some (.cells (bxA b A c A' c') 27 (0, 0)) := blk_more ((hb4.block _ (Array.getElem?_eq_some_iff.1 HD3.out).1).trans HD3.out) _
            have d6 := blk_new w4 (.cells (bxA (b.atY y) A4 c4 A5 c5) 27)
            have p4 : (w4.alloc (.cells (bxA (b.atY y) A4 c4 A5 c5) 27)).cell? ⟨w4.heap.size, 4, none⟩ = some (.int .i64 hh) := by rw [← HNM.out.1]; exact blk_cell d6 4 _ rfl
            have p5 : (w4.alloc (.cells (bxA (b.atY y) A4 c4 A5 c5) 27)).cell? ⟨w4.heap.size, 5, none⟩ = some (.int .i64 dd) := by rw [← HNM.out.2]; exact blk_cell d6 5 _ rfl
            have p6 : (w4.alloc (.cells (bxA (b.atY y) A4 c4 A5 c5) 27)).cell? ⟨w4.heap.size, 6, none⟩ = some (.int .i64 b.x) := blk_cell d6 6 _ rfl
            have p7 : (w4.alloc (.cells (bxA (b.atY y) A4 c4 A5 c5) 27)).cell? ⟨w4.heap.size, 7, none⟩ = some (.int .i64 y) := blk_cell d6 7 _ rfl
            have o4 : (w4.alloc (.cells (bxA (b.atY y) A4 c4 A5 c5) 27)).cell? ⟨w.heap.size, 4, none⟩ = some (.int .i64 hh) := by rw [← HNM.out.1]; exact blk_cell d5 4 _ rfl
            have o5 : (w4.alloc (.cells (bxA (b.atY y) A4 c4 A5 c5) 27)).cell? ⟨w.heap.size, 5, none⟩ = some (.int .i64 dd) := by rw [← HNM.out.2]; exact blk_cell d5 5 _ rfl
            have o6 : (w4.alloc (.cells (bxA (b.atY y) A4 c4 A5 c5) 27)).cell? ⟨w.heap.size, 6, none⟩ = some (.int .i64 b.x) := blk_cell d5 6 _ rfl
            clear d5 d6 hb4 b4 b5
            go_wp2
            go_ret
            exact ⟨rfl, HB4.out⟩
      · subst ho
        by_cases hm : 268435456 < hh
        · go_wp2
          go_ret
          exact ⟨rfl, HB3.out⟩
        · by_cases hm2 : hh < -268435456
          · go_wp2
            go_ret
            exact ⟨rfl, HB3.out⟩
          · skip
            obtain ⟨y, D, hgo, s1, s2, s3, s4, s5, q1, q2⟩ := HGO.out (by omega)
            have HG := Lib.hid hgo
            clear hgo
            go_wp2_with ((with_reducible refine at_load 27 ?_); go_loud (refine wpList_load_all i1 11 hi1 hy1 _ Try.underlying27 rfl rfl HC3.out ?_))
            refine (HG.out w3 HB3.out).mono ?_
            rintro e w4 ⟨⟨A4, c4, A5, c5, rfl⟩, hb4⟩
            have HB4 : Hid (Below w.heap.size w (w4.alloc (.cells (bxA (b.atY y) A4 c4 A5 c5) 27))) := below_next (below_next HB3.out hb4) (one_below _ _)
            have d5 : (w4.alloc (.cells (bxA (b.atY y) A4 c4 A5 c5) 27)).heap[w.heap.size]? = some (.cells (bxA b A c A' c') 27 (0, 0)) := blk_more ((hb4.block _ (Array.getElem?_eq_some_iff.1 HD3.out).1).trans HD3.out) _
            have d6 := blk_new w4 (.cells (bxA (b.atY y) A4 c4 A5 c5) 27)
            have p4 : (w4.alloc (.cells (bxA (b.atY y) A4 c4 A5 c5) 27)).cell? ⟨w4.heap.size, 4, none⟩ = some (.int .i64 hh) := by rw [← HNM.out.1]; exact blk_cell d6 4 _ rfl
            have p5 : (w4.alloc (.cells (bxA (b.atY y) A4 c4 A5 c5) 27)).cell? ⟨w4.heap.size, 5, none⟩ = some (.int .i64 hh) := by rw [← HNM.out.2]; exact blk_cell d6 5 _ rfl
            have p6 : (w4.alloc (.cells (bxA (b.atY y) A4 c4 A5 c5) 27)).cell? ⟨w4.heap.size, 6, none⟩ = some (.int .i64 b.x) := blk_cell d6 6 _ rfl
            have p7 : (w4.alloc (.cells (bxA (b.atY y) A4 c4 A5 c5) 27)).cell? ⟨w4.heap.size, 7, none⟩ = some (.int .i64 y) := blk_cell d6 7 _ rfl
            have o4 : (w4.alloc (.cells (bxA (b.atY y) A4 c4 A5 c5) 27)).cell? ⟨w.heap.size, 4, none⟩ = some (.int .i64 hh) := by rw [← HNM.out.1]; exact blk_cell d5 4 _ rfl
            have o5 : (w4.alloc (.cells (bxA (b.atY y) A4 c4 A5 c5) 27)).cell? ⟨w.heap.size, 5, none⟩ = some (.int .i64 hh) := by rw [← HNM.out.2]; exact blk_cell d5 5 _ rfl
            have o6 : (w4.alloc (.cells (bxA (b.atY y) A4 c4 A5 c5) 27)).cell? ⟨w.heap.size, 6, none⟩ = some (.int .i64 b.x) := blk_cell d5 6 _ rfl
            clear d5 d6 hb4 b4 b5
            go_wp2
            go_ret
            exact ⟨rfl, HB4.out⟩
      · have o1 : dd ≤ hh := by omega
        have o2 : ¬ hh < dd := by omega
        have o3 : ¬ hh ≤ dd := by omega
        by_cases hm : 268435456 < hh
        · go_wp2
          go_ret
          exact ⟨rfl, HB3.out⟩
        · by_cases hm2 : dd < -268435456
          · go_wp2
            go_ret
            exact ⟨rfl, HB3.out⟩
          · skip
            obtain ⟨y, D, hgo, s1, s2, s3, s4, s5, q1, q2⟩ := HGO.out (by omega)
            have HG := Lib.hid hgo
            clear hgo
            go_wp2_with ((with_reducible refine at_load 27 ?_); go_loud (refine wpList_load_all i1 11 hi1 hy1 _ Try.underlying27 rfl rfl HC3.out ?_))
            refine (HG.out w3 HB3.out).mono ?_
            rintro e w4 ⟨⟨A4, c4, A5, c5, rfl⟩, hb4⟩
            have HB4 : Hid (Below w.heap.size w (w4.alloc (.cells (bxA (b.atY y) A4 c4 A5 c5) 27))) := below_next (below_next HB3.out hb4) (one_below _ _)
            have d5 : (w4.alloc (.cells (bxA (b.atY y) A4 c4 A5 c5) 27)).heap[w.heap.size]? = some (.cells (bxA b A c A' c') 27 (0, 0)) := blk_more ((hb4.block _ (Array.getElem?_eq_some_iff.1 HD3.out).1).trans HD3.out) _
            have d6 := blk_new w4 (.cells (bxA (b.atY y) A4 c4 A5 c5) 27)
            have p4 : (w4.alloc (.cells (bxA (b.atY y) A4 c4 A5 c5) 27)).cell? ⟨w4.heap.size, 4, none⟩ = some (.int .i64 hh) := by rw [← HNM.out.1]; exact blk_cell d6 4 _ rfl
            have p5 : (w4.alloc (.cells (bxA (b.atY y) A4 c4 A5 c5) 27)).cell? ⟨w4.heap.size, 5, none⟩ = some (.int .i64 dd) := by rw [← HNM.out.2]; exact blk_cell d6 5 _ rfl
            have p6 : (w4.alloc (.cells (bxA (b.atY y) A4 c4 A5 c5) 27)).cell? ⟨w4.heap.size, 6, none⟩ = some (.int .i64 b.x) := blk_cell d6 6 _ rfl
            have p7 : (w4.alloc (.cells (bxA (b.atY y) A4 c4 A5 c5) 27)).cell? ⟨w4.heap.size, 7, none⟩ = some (.int .i64 y) := blk_cell d6 7 _ rfl
            have o4 : (w4.alloc (.cells (bxA (b.atY y) A4 c4 A5 c5) 27)).cell? ⟨w.heap.size, 4, none⟩ = some (.int .i64 hh) := by rw [← HNM.out.1]; exact blk_cell d5 4 _ rfl
            have o5 : (w4.alloc (.cells (bxA (b.atY y) A4 c4 A5 c5) 27)).cell? ⟨w.heap.size, 5, none⟩ = some (.int .i64 dd) := by rw [← HNM.out.2]; exact blk_cell d5 5 _ rfl
            have o6 : (w4.alloc (.cells (bxA (b.atY y) A4 c4 A5 c5) 27)).cell? ⟨w.heap.size, 6, none⟩ = some (.int .i64 b.x) := blk_cell d5 6 _ rfl
            clear d5 d6 hb4 b4 b5
            go_wp2
            go_ret
            exact ⟨rfl, HB4.out⟩
end Go.Proofs.Ytonahgdchngabaa
