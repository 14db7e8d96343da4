/- The law on Center: the walk. Printed by gen_lawcen.py. -/
import Derived.Test.YtonahgdchngabaaPkAwake
import Derived.Test.YtonahgdchngabaaPkRCen
import Derived.Test.YtonahgdchngabaaBoxREq
namespace Go.Proofs.Ytonahgdchngabaa
open Go.RowKit
theorem cenR_lens {b : Bx} {ax : Int} (h : lens b) (hc : cntB b ≤ 400) : lens (cenR b ax) ∧ cntB (cenR b ax) ≤ 400 := by
  unfold cenR
  split
  · exact ⟨h, by rw [cntB_eq] at hc ⊢; exact hc⟩
  · exact ⟨⟨Nat.zero_le _, Nat.zero_le _, Nat.zero_le _⟩, by rw [cntB_eq]; show 1 + cntL [] ≤ _; rw [cntL_nil]; omega⟩
set_option maxRecDepth 100000 in
set_option maxHeartbeats 2500000 in
theorem vpackCenter_walk (b : Bx) (A : Option Addr) (c : Nat) (A' : Option Addr) (c' : Nat) (ax : Int) (w : World) (hl : lens b) (hK : Kids w 0 w.heap.size A b.kids) (hI : Ints w 0 w.heap.size A' b.src) :
    Calls Try.prog 4 #[.agg (bxA b A c A' c'), .int .i64 ax] w fun e w' => e = .returned (.bool true) ∧ Below w.heap.size w w' := by
  obtain ⟨i1, hi1, hy0, hy1, hy2⟩ := info_parts infoBox
  have HK := Lib.hid (And.intro hK hI)
  have HL := Lib.hid hl
  clear hK hI hl
  have HB0 : Hid (Below w.heap.size w (w.alloc (.cells (bxA b A c A' c') 27))) := one_below _ _
  have HD0 := Lib.hid (blk_new w (.cells (bxA b A c A' c') 27))
  go_enter Try.func4, Try.ntmps4
  go_wp2_with fail
  refine (vawake_any (w.alloc (.cells (bxA b A c A' c') 27))).mono ?_
  rintro e w1 ⟨rfl, hb1⟩
  have HB1 : Hid (Below w.heap.size w w1) := below_next HB0.out hb1
  have HD1 : Hid (w1.heap[w.heap.size]? = some (.cells (bxA b A c A' c') 27 (0, 0))) := (hb1.block _ (by simp)).trans HD0.out
  have HC1 : Hid (∀ j, j < 11 → w1.cell? ⟨w.heap.size, 0 + j, none⟩ = (bxA b A c A' c')[j]?) := fun j _ => by
    rw [Nat.zero_add]; exact cell_of_row _ _ _ _ _ _ HD1.out
  clear hb1 HB0 HD0
  obtain ⟨r, hr⟩ : ∃ r, decide (cntB b ≤ 400) = r := ⟨_, rfl⟩
  have HR := Lib.hid hr
  clear hr
  go_wp2_with ((with_reducible refine at_load 27 ?_); go_loud (refine wpList_load_all i1 11 hi1 hy1 _ Try.underlying27 rfl rfl HC1.out ?_))
  refine (rfew_any b 400 A c A' c' w1 (by omega) HR.out (HK.out.1.next HB1.out)).mono ?_
  rintro e w2 ⟨rfl, hb2⟩
  have HB2 := Lib.hid (below_next HB1.out hb2)
  have HD2 : Hid (w2.heap[w.heap.size]? = some (.cells (bxA b A c A' c') 27 (0, 0))) := (hb2.block _ (Array.getElem?_eq_some_iff.1 HD1.out).1).trans HD1.out
  clear hb2 HC1
  cases r with
  | false =>
    go_wp2
    go_ret
    exact ⟨rfl, HB2.out⟩
  | true =>
    have HCN : Hid (cntB b ≤ 400) := Lib.hid (of_decide_eq_true HR.out)
    clear HR
    have HC2 : Hid (∀ j, j < 11 → w2.cell? ⟨w.heap.size, 0 + j, none⟩ = (bxA b A c A' c')[j]?) := fun j _ => by
      rw [Nat.zero_add]; exact cell_of_row _ _ _ _ _ _ HD2.out
    have HLE : Hid (lens (cenR b ax) ∧ cntB (cenR b ax) ≤ 400) := cenR_lens HL.out HCN.out
    have HCA : Hid (∀ W, Below w.heap.size w W → Calls Try.prog 14 #[.agg (bxA b A c A' c'), .int .i64 ax] W (CenPost b ax W)) := fun W hW => center_any b A c A' c' ax W HL.out (by have := HCN.out; omega) (HK.out.1.next hW) (HK.out.2.next hW)
    have HCR : Hid (∀ W, Below w.heap.size w W → Calls Try.prog 15 #[.agg (bxA b A c A' c'), .int .i64 ax] W (CenPost b ax W)) := fun W hW => rcenter_any b A c A' c' ax W HL.out (by have := HCN.out; omega) (HK.out.1.next hW) (HK.out.2.next hW)
    unfold CenPost at HCA HCR
    generalize cenR b ax = R at HLE HCA HCR
    generalize cenE b ax = E at HCA HCR
    go_wp2_with ((with_reducible refine at_load 27 ?_); go_loud (refine wpList_load_all i1 11 hi1 hy1 _ Try.underlying27 rfl rfl HC2.out ?_))
    refine (HCA.out w2 HB2.out).mono ?_
    rintro e w3 ⟨⟨A3, c3, A4, c4, rfl, hk3, hi3⟩, hb3⟩
    have HB3 := Lib.hid (below_next HB2.out hb3)
    have HK3 := Lib.hid (And.intro hk3 hi3)
    have HB4 : Hid (Below w3.heap.size w3 (w3.alloc (.cells (bxA R A3 c3 A4 c4) 27))) := one_below _ _
    have HD4 := Lib.hid (blk_new w3 (.cells (bxA R A3 c3 A4 c4) 27))
    have HE4 : Hid ((w3.alloc (.cells (bxA R A3 c3 A4 c4) 27)).heap[w.heap.size]? = some (.cells (bxA b A c A' c') 27 (0, 0))) := blk_more ((hb3.block _ (Array.getElem?_eq_some_iff.1 HD2.out).1).trans HD2.out) _
    have HC4 : Hid (∀ j, j < 11 → (w3.alloc (.cells (bxA R A3 c3 A4 c4) 27)).cell? ⟨w.heap.size, 0 + j, none⟩ = (bxA b A c A' c')[j]?) := fun j _ => by
      rw [Nat.zero_add]; exact cell_of_row _ _ _ _ _ _ HE4.out
    clear hb3 hk3 hi3 HC2
    go_wp2_with ((with_reducible refine at_load 27 ?_); go_loud (refine wpList_load_all i1 11 hi1 hy1 _ Try.underlying27 rfl rfl HC4.out ?_))
    refine (HCR.out (w3.alloc (.cells (bxA R A3 c3 A4 c4) 27)) (below_next HB3.out HB4.out)).mono ?_
    rintro e w5 ⟨⟨A5, c5, A6, c6, rfl, hk5, hi5⟩, hb5⟩
    have HB5 : Hid (Below w3.heap.size w3 w5) := below_next HB4.out hb5
    have HK5 := Lib.hid (And.intro hk5 hi5)
    have HD5 : Hid (w5.heap[w3.heap.size]? = some (.cells (bxA R A3 c3 A4 c4) 27 (0, 0))) := (hb5.block _ (by simp)).trans HD4.out
    have HE5 : Hid (w5.heap[w.heap.size]? = some (.cells (bxA b A c A' c') 27 (0, 0))) := (hb5.block _ (Array.getElem?_eq_some_iff.1 HE4.out).1).trans HE4.out
    clear hb5 hk5 hi5 HC4
    go_wp2_with fail
    have HB6 : Hid (Below w5.heap.size w5 (w5.alloc (.cells (bxA R A5 c5 A6 c6) 27))) := one_below _ _
    have HX1 : Hid ((w5.alloc (.cells (bxA R A5 c5 A6 c6) 27)).heap[w.heap.size]? = some (.cells (bxA b A c A' c') 27 (0, 0))) := blk_more HE5.out _
    have HX2 : Hid ((w5.alloc (.cells (bxA R A5 c5 A6 c6) 27)).heap[w3.heap.size]? = some (.cells (bxA R A3 c3 A4 c4) 27 (0, 0))) := blk_more HD5.out _
    have HX3 : Hid ((w5.alloc (.cells (bxA R A5 c5 A6 c6) 27)).heap[w5.heap.size]? = some (.cells (bxA R A5 c5 A6 c6) 27 (0, 0))) := blk_new _ _
    change Code.wp _ _ _ _ (w5.alloc (.cells (bxA R A5 c5 A6 c6) 27))
    have HKK : Hid (∀ W, Below (w5.alloc (.cells (bxA R A5 c5 A6 c6) 27)).heap.size (w5.alloc (.cells (bxA R A5 c5 A6 c6) 27)) W → (Kids W 0 W.heap.size A3 R.kids ∧ Ints W 0 W.heap.size A4 R.src ∧ Kids W 0 W.heap.size A5 R.kids ∧ Ints W 0 W.heap.size A6 R.src) ∧ Below w.heap.size w W) := fun W hW => by
      have h5 := below_next HB6.out hW
      have h3 := below_next HB5.out h5
      exact ⟨⟨HK3.out.1.next h3, HK3.out.2.next h3, HK5.out.1.next h5, HK5.out.2.next h5⟩, below_next HB3.out h3⟩
    generalize (w5.alloc (.cells (bxA R A5 c5 A6 c6) 27)) = w6 at HX1 HX2 HX3 HKK ⊢
    have za0 : ∀ v : Bel w6.heap.size w6, v.v.cell? ⟨w.heap.size, 0, none⟩ = some (.int .i64 b.k) := fun v => blk_cell ((v.h.block _ (Array.getElem?_eq_some_iff.1 HX1.out).1).trans HX1.out) 0 _ rfl
    have za1 : ∀ v : Bel w6.heap.size w6, v.v.cell? ⟨w.heap.size, 1, none⟩ = some (.string b.nm) := fun v => blk_cell ((v.h.block _ (Array.getElem?_eq_some_iff.1 HX1.out).1).trans HX1.out) 1 _ rfl
    have za2 : ∀ v : Bel w6.heap.size w6, v.v.cell? ⟨w.heap.size, 2, none⟩ = some (.int .i64 b.sz) := fun v => blk_cell ((v.h.block _ (Array.getElem?_eq_some_iff.1 HX1.out).1).trans HX1.out) 2 _ rfl
    have za3 : ∀ v : Bel w6.heap.size w6, v.v.cell? ⟨w.heap.size, 3, none⟩ = some (.int .i64 b.w) := fun v => blk_cell ((v.h.block _ (Array.getElem?_eq_some_iff.1 HX1.out).1).trans HX1.out) 3 _ rfl
    have za4 : ∀ v : Bel w6.heap.size w6, v.v.cell? ⟨w.heap.size, 4, none⟩ = some (.int .i64 b.h) := fun v => blk_cell ((v.h.block _ (Array.getElem?_eq_some_iff.1 HX1.out).1).trans HX1.out) 4 _ rfl
    have za5 : ∀ v : Bel w6.heap.size w6, v.v.cell? ⟨w.heap.size, 5, none⟩ = some (.int .i64 b.d) := fun v => blk_cell ((v.h.block _ (Array.getElem?_eq_some_iff.1 HX1.out).1).trans HX1.out) 5 _ rfl
    have za6 : ∀ v : Bel w6.heap.size w6, v.v.cell? ⟨w.heap.size, 6, none⟩ = some (.int .i64 b.x) := fun v => blk_cell ((v.h.block _ (Array.getElem?_eq_some_iff.1 HX1.out).1).trans HX1.out) 6 _ rfl
    have za7 : ∀ v : Bel w6.heap.size w6, v.v.cell? ⟨w.heap.size, 7, none⟩ = some (.int .i64 b.y) := fun v => blk_cell ((v.h.block _ (Array.getElem?_eq_some_iff.1 HX1.out).1).trans HX1.out) 7 _ rfl
    have za8 : ∀ v : Bel w6.heap.size w6, v.v.cell? ⟨w.heap.size, 8, none⟩ = some (.slice A b.kids.length c) := fun v => blk_cell ((v.h.block _ (Array.getElem?_eq_some_iff.1 HX1.out).1).trans HX1.out) 8 _ rfl
    have za9 : ∀ v : Bel w6.heap.size w6, v.v.cell? ⟨w.heap.size, 9, none⟩ = some (.int .i64 b.of_) := fun v => blk_cell ((v.h.block _ (Array.getElem?_eq_some_iff.1 HX1.out).1).trans HX1.out) 9 _ rfl
    have za10 : ∀ v : Bel w6.heap.size w6, v.v.cell? ⟨w.heap.size, 10, none⟩ = some (.slice A' b.src.length c') := fun v => blk_cell ((v.h.block _ (Array.getElem?_eq_some_iff.1 HX1.out).1).trans HX1.out) 10 _ rfl
    have zb0 : ∀ v : Bel w6.heap.size w6, v.v.cell? ⟨w3.heap.size, 0, none⟩ = some (.int .i64 R.k) := fun v => blk_cell ((v.h.block _ (Array.getElem?_eq_some_iff.1 HX2.out).1).trans HX2.out) 0 _ rfl
    have zb1 : ∀ v : Bel w6.heap.size w6, v.v.cell? ⟨w3.heap.size, 1, none⟩ = some (.string R.nm) := fun v => blk_cell ((v.h.block _ (Array.getElem?_eq_some_iff.1 HX2.out).1).trans HX2.out) 1 _ rfl
    have zb2 : ∀ v : Bel w6.heap.size w6, v.v.cell? ⟨w3.heap.size, 2, none⟩ = some (.int .i64 R.sz) := fun v => blk_cell ((v.h.block _ (Array.getElem?_eq_some_iff.1 HX2.out).1).trans HX2.out) 2 _ rfl
    have zb3 : ∀ v : Bel w6.heap.size w6, v.v.cell? ⟨w3.heap.size, 3, none⟩ = some (.int .i64 R.w) := fun v => blk_cell ((v.h.block _ (Array.getElem?_eq_some_iff.1 HX2.out).1).trans HX2.out) 3 _ rfl
    have zb4 : ∀ v : Bel w6.heap.size w6, v.v.cell? ⟨w3.heap.size, 4, none⟩ = some (.int .i64 R.h) := fun v => blk_cell ((v.h.block _ (Array.getElem?_eq_some_iff.1 HX2.out).1).trans HX2.out) 4 _ rfl
    have zb5 : ∀ v : Bel w6.heap.size w6, v.v.cell? ⟨w3.heap.size, 5, none⟩ = some (.int .i64 R.d) := fun v => blk_cell ((v.h.block _ (Array.getElem?_eq_some_iff.1 HX2.out).1).trans HX2.out) 5 _ rfl
    have zb6 : ∀ v : Bel w6.heap.size w6, v.v.cell? ⟨w3.heap.size, 6, none⟩ = some (.int .i64 R.x) := fun v => blk_cell ((v.h.block _ (Array.getElem?_eq_some_iff.1 HX2.out).1).trans HX2.out) 6 _ rfl
    have zb7 : ∀ v : Bel w6.heap.size w6, v.v.cell? ⟨w3.heap.size, 7, none⟩ = some (.int .i64 R.y) := fun v => blk_cell ((v.h.block _ (Array.getElem?_eq_some_iff.1 HX2.out).1).trans HX2.out) 7 _ rfl
    have zb8 : ∀ v : Bel w6.heap.size w6, v.v.cell? ⟨w3.heap.size, 8, none⟩ = some (.slice A3 R.kids.length c3) := fun v => blk_cell ((v.h.block _ (Array.getElem?_eq_some_iff.1 HX2.out).1).trans HX2.out) 8 _ rfl
    have zb9 : ∀ v : Bel w6.heap.size w6, v.v.cell? ⟨w3.heap.size, 9, none⟩ = some (.int .i64 R.of_) := fun v => blk_cell ((v.h.block _ (Array.getElem?_eq_some_iff.1 HX2.out).1).trans HX2.out) 9 _ rfl
    have zb10 : ∀ v : Bel w6.heap.size w6, v.v.cell? ⟨w3.heap.size, 10, none⟩ = some (.slice A4 R.src.length c4) := fun v => blk_cell ((v.h.block _ (Array.getElem?_eq_some_iff.1 HX2.out).1).trans HX2.out) 10 _ rfl
    have zc0 : ∀ v : Bel w6.heap.size w6, v.v.cell? ⟨w5.heap.size, 0, none⟩ = some (.int .i64 R.k) := fun v => blk_cell ((v.h.block _ (Array.getElem?_eq_some_iff.1 HX3.out).1).trans HX3.out) 0 _ rfl
    have zc1 : ∀ v : Bel w6.heap.size w6, v.v.cell? ⟨w5.heap.size, 1, none⟩ = some (.string R.nm) := fun v => blk_cell ((v.h.block _ (Array.getElem?_eq_some_iff.1 HX3.out).1).trans HX3.out) 1 _ rfl
    have zc2 : ∀ v : Bel w6.heap.size w6, v.v.cell? ⟨w5.heap.size, 2, none⟩ = some (.int .i64 R.sz) := fun v => blk_cell ((v.h.block _ (Array.getElem?_eq_some_iff.1 HX3.out).1).trans HX3.out) 2 _ rfl
    have zc3 : ∀ v : Bel w6.heap.size w6, v.v.cell? ⟨w5.heap.size, 3, none⟩ = some (.int .i64 R.w) := fun v => blk_cell ((v.h.block _ (Array.getElem?_eq_some_iff.1 HX3.out).1).trans HX3.out) 3 _ rfl
    have zc4 : ∀ v : Bel w6.heap.size w6, v.v.cell? ⟨w5.heap.size, 4, none⟩ = some (.int .i64 R.h) := fun v => blk_cell ((v.h.block _ (Array.getElem?_eq_some_iff.1 HX3.out).1).trans HX3.out) 4 _ rfl
    have zc5 : ∀ v : Bel w6.heap.size w6, v.v.cell? ⟨w5.heap.size, 5, none⟩ = some (.int .i64 R.d) := fun v => blk_cell ((v.h.block _ (Array.getElem?_eq_some_iff.1 HX3.out).1).trans HX3.out) 5 _ rfl
    have zc6 : ∀ v : Bel w6.heap.size w6, v.v.cell? ⟨w5.heap.size, 6, none⟩ = some (.int .i64 R.x) := fun v => blk_cell ((v.h.block _ (Array.getElem?_eq_some_iff.1 HX3.out).1).trans HX3.out) 6 _ rfl
    have zc7 : ∀ v : Bel w6.heap.size w6, v.v.cell? ⟨w5.heap.size, 7, none⟩ = some (.int .i64 R.y) := fun v => blk_cell ((v.h.block _ (Array.getElem?_eq_some_iff.1 HX3.out).1).trans HX3.out) 7 _ rfl
    have zc8 : ∀ v : Bel w6.heap.size w6, v.v.cell? ⟨w5.heap.size, 8, none⟩ = some (.slice A5 R.kids.length c5) := fun v => blk_cell ((v.h.block _ (Array.getElem?_eq_some_iff.1 HX3.out).1).trans HX3.out) 8 _ rfl
    have zc9 : ∀ v : Bel w6.heap.size w6, v.v.cell? ⟨w5.heap.size, 9, none⟩ = some (.int .i64 R.of_) := fun v => blk_cell ((v.h.block _ (Array.getElem?_eq_some_iff.1 HX3.out).1).trans HX3.out) 9 _ rfl
    have zc10 : ∀ v : Bel w6.heap.size w6, v.v.cell? ⟨w5.heap.size, 10, none⟩ = some (.slice A6 R.src.length c6) := fun v => blk_cell ((v.h.block _ (Array.getElem?_eq_some_iff.1 HX3.out).1).trans HX3.out) 10 _ rfl
    have HE : Hid (∀ v : Bel w6.heap.size w6, Calls Try.prog 12 #[.agg (bxA R A3 c3 A4 c4), .agg (bxA R A5 c5 A6 c6)] v.v fun e w' => e = .returned (.bool true) ∧ ∃ v' : Bel w6.heap.size w6, w' = v'.v) := fun v => by
      obtain ⟨⟨h1, h2, h3, h4⟩, -⟩ := HKK.out v.v v.h
      refine (requal_any (cntB R) true R R (Nat.le_refl _) HLE.out.1 HLE.out.1 ⟨fun _ => rfl, fun _ => rfl⟩ A3 c3 A4 c4 A5 c5 A6 c6 v.v h1 h2 h3 h4).mono ?_
      rintro e w' ⟨he, hb⟩
      exact ⟨he, ⟨w', below_next v.h hb⟩, rfl⟩
    obtain ⟨s, hs⟩ : ∃ s, wrap64 (b.h + b.d) = s := ⟨_, rfl⟩
    have HTT : Hid (∀ v : Bel w6.heap.size w6, Calls Try.prog 16 #[.agg (bxA b A c A' c')] v.v fun e w' => e = .returned (.int .i64 s) ∧ ∃ v' : Bel w6.heap.size w6, w' = v'.v) := fun v => by
      refine (total_any b A c A' c' v.v).mono ?_
      rintro e w' ⟨he, hb⟩
      rw [IntWalk.i64_left, hs] at he
      exact ⟨he, ⟨w', below_next v.h hb⟩, rfl⟩
    refine wp_region_bel (by kernel_rfl) (by kernel_rfl) ?_
    repeat (go_big_quiet_step (first | (go_at_call 12; exact HE.out _) | (go_at_call 16; exact HTT.out _)))
    refine wpQuiet_nil ?_
    rintro W2 ⟨v, rfl⟩
    go_wp2
    go_ret
    exact ⟨rfl, (HKK.out v.v v.h).2⟩
end Go.Proofs.Ytonahgdchngabaa
