/- The reference's Center. -/
import Derived.Test.YtonahgdchngabaaPkCen
namespace Go.Proofs.Ytonahgdchngabaa
open Go.RowKit
set_option maxRecDepth 100000 in
set_option maxHeartbeats 1500000 in
theorem rcenter_any (b : Bx) (A : Option Addr) (c : Nat) (A' : Option Addr) (c' : Nat) (ax : Int) (w : World) (hl : lens b) (hc : cntB b ≤ 20000) (hK : Kids w 0 w.heap.size A b.kids) (hI : Ints w 0 w.heap.size A' b.src) :
    Calls Try.prog 15 #[.agg (bxA b A c A' c'), .int .i64 ax] w (CenPost b ax w) := by
  obtain ⟨i1, hi1, hy0, hy1, hy2⟩ := info_parts infoBox
  have HL := Lib.hid hl
  have HCN := Lib.hid hc
  have HK := Lib.hid (And.intro hK hI)
  clear hl hc hK hI
  obtain ⟨r, hr⟩ := bool_of (validB b)
  have HVD := Lib.hid hr
  clear hr
  have HW : Hid (∃ W0 : World, W0 = (w.alloc (.cells (bxA b A c A' c') 27)).alloc (.cells zeroBox 27) ∧ W0.heap[w.heap.size]? = some (.cells (bxA b A c A' c') 27 (0, 0)) ∧ W0.heap[w.heap.size + 1]? = some (.cells zeroBox 27 (0, 0)) ∧ Below w.heap.size w W0 ∧ W0.heap.size = w.heap.size + 2) := by
    refine ⟨_, rfl, ?_, ?_, ?_, by simp⟩
    · exact blk_more (blk_new w (.cells (bxA b A c A' c') 27)) _
    · have h1 := blk_new (w.alloc (.cells (bxA b A c A' c') 27)) (.cells zeroBox 27)
      rw [World.size_alloc] at h1
      exact h1
    · exact (one_below w _).alloc (one_below w _).size _
  have HC : Hid (∀ j, j < 11 → ((w.alloc (.cells (bxA b A c A' c') 27)).alloc (.cells zeroBox 27)).cell? ⟨w.heap.size, 0 + j, none⟩ = (bxA b A c A' c')[j]?) := fun j _ => by
    obtain ⟨W0, rfl, h, -⟩ := HW.out
    rw [Nat.zero_add]; exact cell_of_row _ _ _ _ _ _ h
  go_enter Try.func15, Try.ntmps15
  go_wp2_with ((with_reducible refine at_load 27 ?_); go_loud (refine wpList_load_all i1 11 hi1 hy1 _ Try.underlying27 rfl rfl HC.out ?_))
  obtain ⟨W0, hW0, hw⟩ := HW.out
  clear HC HW
  rw [← hW0]
  have HW := Lib.hid hw
  clear hw hW0
  refine (rValid_any b A c A' c' _ HL.out HCN.out HVD.out (HK.out.1.next HW.out.2.2.1) (HK.out.2.next HW.out.2.2.1)).mono ?_
  rintro e w2 ⟨rfl, hb2⟩
  have HB2 := Lib.hid hb2
  have D2 := Lib.hid ((hb2.block _ (Array.getElem?_eq_some_iff.1 HW.out.1).1).trans HW.out.1)
  have D4 := Lib.hid ((hb2.block _ (Array.getElem?_eq_some_iff.1 HW.out.2.1).1).trans HW.out.2.1)
  have HBW : Hid (Below w.heap.size w w2) := HW.out.2.2.1.trans (hb2.mono HW.out.2.2.1.size)
  clear hb2
  cases r with
  | false =>
    go_wp2_with ((with_reducible refine at_store 27 ?_); go_loud (refine wpList_store_all i1 11 hi1 hy1 rfl rfl rfl D4.out (by decide) (bxA_one zeroBx none 0 none 0) ?_); rw [row_all _ _ rfl rfl])
    refine bodyPost_ret (results_cell_tmp rfl _ i1 11 hi1 hy1 _ Try.underlying27 rfl rfl (fun j _ => by rw [Nat.zero_add]; exact cell_setRow_same _ _ _ _ _ _ _ D4.out)) rfl ?_
    exact CenPost.zero (cenE_1 fun h => by have := HVD.out.2 h; simp at this) (below_setRow HBW.out (by omega) _)
  | true =>
    have HVT : Hid (validB b) := HVD.out.1 rfl
    clear HVD
    have hn := valid_num HVT.out
    obtain ⟨hh, hhh⟩ : ∃ hh, b.h = hh := ⟨_, rfl⟩
    obtain ⟨dd, hdd⟩ : ∃ dd, b.d = dd := ⟨_, rfl⟩
    have b4 : w2.cell? ⟨w.heap.size, 4, none⟩ = some (.int .i64 hh) := by rw [← hhh]; exact blk_cell D2.out 4 _ rfl
    have b5 : w2.cell? ⟨w.heap.size, 5, none⟩ = some (.int .i64 dd) := by rw [← hdd]; exact blk_cell D2.out 5 _ rfl
    rw [hhh, hdd] at hn
    have sd : IntKind.i64.wrap (hh - dd) = hh - dd := by
      unfold rngL at hn
      exact IntWalk.i64_in _ (by omega)
    have HNM := Lib.hid (And.intro hhh hdd)
    clear hn hhh hdd
    obtain ⟨r1, hr1⟩ := bool_of (rngL ax)
    have HR1 := Lib.hid hr1
    clear hr1
    go_wp2_with fail
    refine (rlvalid_any ax _ HR1.out).mono ?_
    rintro e w3 ⟨rfl, rfl⟩
    cases r1 with
    | false =>
      go_wp2_with ((with_reducible refine at_store 27 ?_); go_loud (refine wpList_store_all i1 11 hi1 hy1 rfl rfl rfl D4.out (by decide) (bxA_one zeroBx none 0 none 0) ?_); rw [row_all _ _ rfl rfl])
      refine bodyPost_ret (results_cell_tmp rfl _ i1 11 hi1 hy1 _ Try.underlying27 rfl rfl (fun j _ => by rw [Nat.zero_add]; exact cell_setRow_same _ _ _ _ _ _ _ D4.out)) rfl ?_
      exact CenPost.zero (cenE_2 HVT.out fun h => by have := HR1.out.2 h.1; simp at this) (below_setRow HBW.out (by omega) _)
    | true =>
      have HX : Hid (rngL ax) := HR1.out.1 rfl
      clear HR1
      obtain ⟨r2, hr2⟩ := bool_of (rngL (hh - dd))
      have HR2 := Lib.hid hr2
      clear hr2
      go_wp2_with fail
      refine (rlvalid_any (hh - dd) _ HR2.out).mono ?_
      rintro e w4 ⟨rfl, rfl⟩
      cases r2 with
      | false =>
        go_wp2_with ((with_reducible refine at_store 27 ?_); go_loud (refine wpList_store_all i1 11 hi1 hy1 rfl rfl rfl D4.out (by decide) (bxA_one zeroBx none 0 none 0) ?_); rw [row_all _ _ rfl rfl])
        refine bodyPost_ret (results_cell_tmp rfl _ i1 11 hi1 hy1 _ Try.underlying27 rfl rfl (fun j _ => by rw [Nat.zero_add]; exact cell_setRow_same _ _ _ _ _ _ _ D4.out)) rfl ?_
        exact CenPost.zero (cenE_2 HVT.out fun h => by rw [HNM.out.1, HNM.out.2] at h; have := HR2.out.2 h.2; simp at this) (below_setRow HBW.out (by omega) _)
      | true =>
        have HOK : Hid (rngL ax ∧ rngL (b.h - b.d)) := by
          refine ⟨HX.out, ?_⟩
          rw [HNM.out.1, HNM.out.2]; exact HR2.out.1 rfl
        have HG : Hid (rngL (hh - dd)) := HR2.out.1 rfl
        clear HR2
        obtain ⟨hf, hhf⟩ : ∃ hf, halfI (hh - dd) = hf := ⟨_, rfl⟩
        have hb0 := halfI_bounds HG.out
        have ha0 := HOK.out.1
        unfold rngL at ha0
        rw [hhf] at hb0
        obtain ⟨y, hy⟩ : ∃ y, ax - hf = y := ⟨_, rfl⟩
        have sy : IntKind.i64.wrap (ax - hf) = y := by rw [← hy]; exact IntWalk.i64_in _ (by omega)
        have HY : Hid (cenY b ax = y) := by show ax - halfI (b.h - b.d) = y; rw [HNM.out.1, HNM.out.2, hhf, hy]
        have HHF := Lib.hid hhf
        have b7 : w4.cell? ⟨w.heap.size, 7, none⟩ = some (.int .i64 b.y) := blk_cell D2.out 7 _ rfl
        have z7 := blk_free D2.out 7
        clear hb0 ha0 hhf hy
        go_wp2_with fail
        refine (rhalf_any (hh - dd) _ HG.out).mono ?_
        rintro e w5 ⟨rfl, rfl⟩
        rw [HHF.out]
        have n2 : (w5.setCell ⟨w.heap.size, 7, none⟩ (.int .i64 y)).heap[w.heap.size]? = some (.cells (bxA (b.atY y) A c A' c') 27 (0, 0)) := blk_set D2.out 7 (.int .i64 y)
        have n4 := blk_far D4.out (p := ⟨w.heap.size, 7, none⟩) (by show w.heap.size + 1 ≠ w.heap.size; omega) (.int .i64 y)
        have c7 : (w5.setCell ⟨w.heap.size, 7, none⟩ (.int .i64 y)).cell? ⟨w.heap.size, 7, none⟩ = some (.int .i64 y) := blk_cell n2 7 _ rfl
        have N2 := Lib.hid n2
        have N4 := Lib.hid n4
        have NB : Hid (Below w.heap.size w (w5.setCell ⟨w.heap.size, 7, none⟩ (.int .i64 y))) := HBW.out.setCell (p := ⟨w.heap.size, 7, none⟩) (Nat.le_refl _) _
        have HC : Hid (∀ j, j < 11 → (w5.setCell ⟨w.heap.size, 7, none⟩ (.int .i64 y)).cell? ⟨w.heap.size, 0 + j, none⟩ = (bxA (b.atY y) A c A' c')[j]?) := fun j _ => by
          rw [Nat.zero_add]; exact cell_of_row _ _ _ _ _ _ N2.out
        clear n2 n4
        obtain ⟨r3, hr3⟩ := bool_of (rngL y)
        have HR3 := Lib.hid hr3
        clear hr3
        go_wp2_with fail
        refine (rlvalid_any y _ HR3.out).mono ?_
        rintro e w6 ⟨rfl, rfl⟩
        cases r3 with
        | false =>
          go_wp2_with ((with_reducible refine at_store 27 ?_); go_loud (refine wpList_store_all i1 11 hi1 hy1 rfl rfl rfl N4.out (by decide) (bxA_one zeroBx none 0 none 0) ?_); rw [row_all _ _ rfl rfl])
          refine bodyPost_ret (results_cell_tmp rfl _ i1 11 hi1 hy1 _ Try.underlying27 rfl rfl (fun j _ => by rw [Nat.zero_add]; exact cell_setRow_same _ _ _ _ _ _ _ N4.out)) rfl ?_
          exact CenPost.zero (cenE_3 HVT.out HOK.out fun h => by rw [HY.out] at h; have := HR3.out.2 h; simp at this) (below_setRow NB.out (by omega) _)
        | true =>
          have HZ : Hid (rngL y) := HR3.out.1 rfl
          clear HR3
          go_wp2_with (first
            | ((with_reducible refine at_load 27 ?_); go_loud (refine wpList_load_all i1 11 hi1 hy1 _ Try.underlying27 rfl rfl HC.out ?_))
            | ((with_reducible refine at_store 27 ?_); go_loud (refine wpList_store_all i1 11 hi1 hy1 rfl rfl rfl N4.out (by decide) (bxA_one (b.atY y) A c A' c') ?_); rw [row_all _ _ rfl rfl]))
          refine bodyPost_ret (results_cell_tmp rfl _ i1 11 hi1 hy1 _ Try.underlying27 rfl rfl (fun j _ => by rw [Nat.zero_add]; exact cell_setRow_same _ _ _ _ _ _ _ N4.out)) rfl ?_
          have h0 := cenE_0 HVT.out HOK.out (by rw [HY.out]; exact HZ.out)
          rw [HY.out] at h0
          unfold CenPost
          rw [h0.1, h0.2]
          have hbf : Below w.heap.size w ((w5.setCell ⟨w.heap.size, 7, none⟩ (.int .i64 y)).setRow (w.heap.size + 1) (bxA (b.atY y) A c A' c')) := below_setRow NB.out (by omega) _
          exact ⟨⟨A, c, A', c', rfl, HK.out.1.next hbf, HK.out.2.next hbf⟩, hbf⟩
end Go.Proofs.Ytonahgdchngabaa
