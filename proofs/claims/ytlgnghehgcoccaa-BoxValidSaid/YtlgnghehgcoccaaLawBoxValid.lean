/- The law BoxValid: the walk. -/
import Derived.Test.YtlgnghehgcoccaaBoxValid
import Derived.Test.YtlgnghehgcoccaaBoxAwake
namespace Go.Proofs.Ytlgnghehgcoccaa
open Go.RowKit
set_option maxRecDepth 100000 in
set_option maxHeartbeats 4000000 in
theorem boxValid_walk (t : Bx) (A : Option Addr) (c : Nat) (A' : Option Addr) (c' : Nat) (w : World) (hl : lens t) (hK : Kids w 0 w.heap.size A t.kids) (hI : Ints w 0 w.heap.size A' t.src) :
    Calls Try.prog 6 #[.agg (bxA t A c A' c')] w fun e w' => e = .returned (.bool true) ∧ Below w.heap.size w w' := by
  have hb0 := one_below w (.cells (bxA t A c A' c') 25)
  have hd0 : (w.alloc (.cells (bxA t A c A' c') 25)).heap[w.heap.size]? = some (.cells (bxA t A c A' c') 25 (0, 0)) := blk_new _ _
  have HD0 := Lib.hid hd0
  have HB0 := Lib.hid hb0
  have HL := Lib.hid hl
  have HK := Lib.hid hK
  have HI := Lib.hid hI
  clear hb0 hd0 hl hK hI
  go_enter Try.func6, Try.ntmps6
  go_wp2_with fail
  refine (bawake_any _).mono ?_
  rintro e w1 ⟨rfl, hb1⟩
  have HB1 : Hid (Below w.heap.size w w1) := below_next HB0.out hb1
  have HD1 : Hid (w1.heap[w.heap.size]? = some (.cells (bxA t A c A' c') 25 (0, 0))) := (hb1.block w.heap.size (by simp)).trans HD0.out
  have HS1 : Hid (w.heap.size < w1.heap.size) := (Array.getElem?_eq_some_iff.1 HD1.out).1
  clear hb1
  go_wp2_with fail
  have HCELL : Hid (∀ (v : Bel w1.heap.size w1), v.v.cell? ⟨w.heap.size, 0, none⟩ = some (.int .i64 t.k) ∧ v.v.cell? ⟨w.heap.size, 1, none⟩ = some (.string t.nm) ∧ v.v.cell? ⟨w.heap.size, 2, none⟩ = some (.int .i64 t.sz) ∧ v.v.cell? ⟨w.heap.size, 3, none⟩ = some (.int .i64 t.w) ∧ v.v.cell? ⟨w.heap.size, 4, none⟩ = some (.int .i64 t.h) ∧ v.v.cell? ⟨w.heap.size, 5, none⟩ = some (.int .i64 t.d) ∧
      v.v.cell? ⟨w.heap.size, 6, none⟩ = some (.int .i64 t.x) ∧ v.v.cell? ⟨w.heap.size, 7, none⟩ = some (.int .i64 t.y) ∧ v.v.cell? ⟨w.heap.size, 8, none⟩ = some (.slice A t.kids.length c) ∧ v.v.cell? ⟨w.heap.size, 9, none⟩ = some (.int .i64 t.of_) ∧ v.v.cell? ⟨w.heap.size, 10, none⟩ = some (.slice A' t.src.length c')) := fun v => by
    have d := (v.h.block w.heap.size HS1.out).trans HD1.out
    exact ⟨blk_cell d 0 _ rfl, blk_cell d 1 _ rfl, blk_cell d 2 _ rfl, blk_cell d 3 _ rfl, blk_cell d 4 _ rfl, blk_cell d 5 _ rfl, blk_cell d 6 _ rfl, blk_cell d 7 _ rfl, blk_cell d 8 _ rfl, blk_cell d 9 _ rfl, blk_cell d 10 _ rfl⟩
  have HKV : Hid (∀ v : Bel w1.heap.size w1, Kids v.v 0 v.v.heap.size A t.kids ∧ Ints v.v 0 v.v.heap.size A' t.src) := fun v => by
    have hb := below_next HB1.out v.h
    exact ⟨HK.out.next hb, HI.out.next hb⟩
  have y0 := fun v => (HCELL.out v).1
  have y1 := fun v => (HCELL.out v).2.1
  have y2 := fun v => (HCELL.out v).2.2.1
  have y3 := fun v => (HCELL.out v).2.2.2.1
  have y4 := fun v => (HCELL.out v).2.2.2.2.1
  have y5 := fun v => (HCELL.out v).2.2.2.2.2.1
  have y6 := fun v => (HCELL.out v).2.2.2.2.2.2.1
  have y7 := fun v => (HCELL.out v).2.2.2.2.2.2.2.1
  have y8 := fun v => (HCELL.out v).2.2.2.2.2.2.2.2.1
  have y9 := fun v => (HCELL.out v).2.2.2.2.2.2.2.2.2.1
  have y10 := fun v => (HCELL.out v).2.2.2.2.2.2.2.2.2.2
  clear HCELL
  obtain ⟨few, hfew⟩ : ∃ few : Bool, decide (cntB t ≤ 300) = few := ⟨_, rfl⟩
  have HF : Hid (∀ v : Bel w1.heap.size w1, Calls Try.prog 8 #[.agg (bxA t A c A' c'), .int .i64 300] v.v fun e w' => e = .returned (.bool few) ∧ ∃ v' : Bel w1.heap.size w1, w' = v'.v) := fun v => by
    refine (rfew_any t 300 A c A' c' v.v (by decide) hfew (HKV.out v).1).mono ?_
    rintro e w' ⟨he, hb⟩
    exact ⟨he, ⟨w', below_next v.h hb⟩, rfl⟩
  cases few with
  | false =>
    clear hfew
    refine wp_region_bel (by kernel_rfl) (by kernel_rfl) ?_
    repeat (go_big_quiet_step (first | (go_at_call 8; exact HF.out _)))
    refine wpQuiet_nil ?_
    rintro W2 ⟨v, rfl⟩
    go_wp2
    go_ret
    exact ⟨rfl, below_next HB1.out v.h⟩
  | true =>
    have hcn : cntB t ≤ 300 := of_decide_eq_true hfew
    obtain ⟨r, hr⟩ := bool_of (validB t)
    have HV : Hid (∀ v : Bel w1.heap.size w1, Calls Try.prog 23 #[.agg (bxA t A c A' c')] v.v fun e w' => e = .returned (.bool r) ∧ ∃ v' : Bel w1.heap.size w1, w' = v'.v) := fun v => by
      refine (bValid_any t A c A' c' v.v HL.out (by omega) hr (HKV.out v).1 (HKV.out v).2).mono ?_
      rintro e w' ⟨he, hb⟩
      exact ⟨he, ⟨w', below_next v.h hb⟩, rfl⟩
    have HRV : Hid (∀ v : Bel w1.heap.size w1, Calls Try.prog 20 #[.agg (bxA t A c A' c')] v.v fun e w' => e = .returned (.bool r) ∧ ∃ v' : Bel w1.heap.size w1, w' = v'.v) := fun v => by
      refine (rValid_any t A c A' c' v.v HL.out (by omega) hr (HKV.out v).1 (HKV.out v).2).mono ?_
      rintro e w' ⟨he, hb⟩
      exact ⟨he, ⟨w', below_next v.h hb⟩, rfl⟩
    have HN : Hid (∀ v : Bel w1.heap.size w1, Calls Try.prog 24 #[.agg (bxA t A c A' c')] v.v fun e w' => e = .returned (.int .i64 (cntB t : Int)) ∧ ∃ v' : Bel w1.heap.size w1, w' = v'.v) := fun v => by
      refine (bcount_any t A c A' c' v.v HL.out (by omega) (HKV.out v).1 (HKV.out v).2).mono ?_
      rintro e w' ⟨he, hb⟩
      exact ⟨he, ⟨w', below_next v.h hb⟩, rfl⟩
    have HRN : Hid (∀ v : Bel w1.heap.size w1, Calls Try.prog 25 #[.agg (bxA t A c A' c')] v.v fun e w' => e = .returned (.int .i64 (cntB t : Int)) ∧ ∃ v' : Bel w1.heap.size w1, w' = v'.v) := fun v => by
      refine (rcount_any (cntB t) t (Nat.le_refl _) (by omega) A c A' c' v.v (HKV.out v).1).mono ?_
      rintro e w' ⟨he, hb⟩
      exact ⟨he, ⟨w', below_next v.h hb⟩, rfl⟩
    clear hr hfew hcn
    refine wp_region_bel (by kernel_rfl) (by kernel_rfl) ?_
    cases r with
    | false =>
      repeat (go_big_quiet_step (first | (go_at_call 8; exact HF.out _) | (go_at_call 23; exact HV.out _) | (go_at_call 20; exact HRV.out _) | (go_at_call 24; exact HN.out _) | (go_at_call 25; exact HRN.out _)))
      refine wpQuiet_nil ?_
      rintro W2 ⟨v, rfl⟩
      go_wp2
      go_ret
      exact ⟨rfl, below_next HB1.out v.h⟩
    | true =>
      repeat (go_big_quiet_step (first | (go_at_call 8; exact HF.out _) | (go_at_call 23; exact HV.out _) | (go_at_call 20; exact HRV.out _) | (go_at_call 24; exact HN.out _) | (go_at_call 25; exact HRN.out _)))
      refine wpQuiet_nil ?_
      rintro W2 ⟨v, rfl⟩
      go_wp2
      go_ret
      exact ⟨rfl, below_next HB1.out v.h⟩
end Go.Proofs.Ytlgnghehgcoccaa
