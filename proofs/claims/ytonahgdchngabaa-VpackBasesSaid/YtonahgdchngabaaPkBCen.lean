/- Center. -/
import Derived.Test.YtonahgdchngabaaPkCen
import Derived.Test.YtonahgdchngabaaBoxDeepX
namespace Go.Proofs.Ytonahgdchngabaa
open Go.RowKit
set_option maxRecDepth 100000 in
set_option maxHeartbeats 1500000 in
theorem center_any (b : Bx) (A : Option Addr) (c : Nat) (A' : Option Addr) (c' : Nat) (ax : Int) (w : World) (hl : lens b) (hc : cntB b ≤ 20000) (hK : Kids w 0 w.heap.size A b.kids) (hI : Ints w 0 w.heap.size A' b.src) :
    Calls Try.prog 14 #[.agg (bxA b A c A' c'), .int .i64 ax] w (CenPost b ax w) := by
  obtain ⟨i1, hi1, hy0, hy1, hy2⟩ := info_parts infoBox
  have HL := Lib.hid hl
  have HCN := Lib.hid hc
  have HK := Lib.hid (And.intro hK hI)
  clear hl hc hK hI
  obtain ⟨r, hr⟩ := bool_of (validB b)
  have HVD := Lib.hid hr
  clear hr
  have HW : Hid (∃ W0 : World, W0 = (w.alloc (.cells (bxA b A c A' c') 27)).alloc (.cells zeroBox 27) ∧ W0.heap[w.heap.size]? = some (.cells (bxA b A c A' c') 27 (0, 0)) ∧ W0.heap[w.heap.size + 1]? = some (.cells zeroBox 27 (0, 0)) ∧ Below w.heap.size w W0 ∧ W0.heap.size = w.heap.size + 2) := by
    refine ⟨_, rfl, ?_, ?_, ?_, by simp⟩
    · exact blk_more (blk_new w (.cells (bxA b A c A' c') 27)) _
    · have h1 := blk_new (w.alloc (.cells (bxA b A c A' c') 27)) (.cells zeroBox 27)
      rw [World.size_alloc] at h1
      exact h1
    · exact (one_below w _).alloc (one_below w _).size _
  have HC : Hid (∀ j, j < 11 → ((w.alloc (.cells (bxA b A c A' c') 27)).alloc (.cells zeroBox 27)).cell? ⟨w.heap.size, 0 + j, none⟩ = (bxA b A c A' c')[j]?) := fun j _ => by
    obtain ⟨W0, rfl, h, -⟩ := HW.out
    rw [Nat.zero_add]; exact cell_of_row _ _ _ _ _ _ h
  go_enter Try.func14, Try.ntmps14
  go_wp2_with ((with_reducible refine at_load 27 ?_); go_loud (refine wpList_load_all i1 11 hi1 hy1 _ Try.underlying27 rfl rfl HC.out ?_))
  obtain ⟨W0, hW0, hw⟩ := HW.out
  clear HC HW
  rw [← hW0]
  have HW := Lib.hid hw
  clear hw hW0
  refine (bValid_any b A c A' c' _ HL.out HCN.out HVD.out (HK.out.1.next HW.out.2.2.1) (HK.out.2.next HW.out.2.2.1)).mono ?_
  rintro e w2 ⟨rfl, hb2⟩
  have HB2 := Lib.hid hb2
  have D2 := Lib.hid ((hb2.block _ (Array.getElem?_eq_some_iff.1 HW.out.1).1).trans HW.out.1)
  have D4 := Lib.hid ((hb2.block _ (Array.getElem?_eq_some_iff.1 HW.out.2.1).1).trans HW.out.2.1)
  have HBW : Hid (Below w.heap.size w w2) := HW.out.2.2.1.trans (hb2.mono HW.out.2.2.1.size)
  clear hb2
  cases r with
  | false =>
    go_wp2_with ((with_reducible refine at_store 27 ?_); go_loud (refine wpList_store_all i1 11 hi1 hy1 rfl rfl rfl D4.out (by decide) (bxA_one zeroBx none 0 none 0) ?_); rw [row_all _ _ rfl rfl])
    refine bodyPost_ret (results_cell_tmp rfl _ i1 11 hi1 hy1 _ Try.underlying27 rfl rfl (fun j _ => by rw [Nat.zero_add]; exact cell_setRow_same _ _ _ _ _ _ _ D4.out)) rfl ?_
    exact CenPost.zero (cenE_1 fun h => by have := HVD.out.2 h; simp at this) (below_setRow HBW.out (by omega) _)
  | true =>
    have HVT : Hid (validB b) := HVD.out.1 rfl
    clear HVD
    have hn := valid_num HVT.out
    obtain ⟨hh, hhh⟩ : ∃ hh, b.h = hh := ⟨_, rfl⟩
    obtain ⟨dd, hdd⟩ : ∃ dd, b.d = dd := ⟨_, rfl⟩
    have b4 : w2.cell? ⟨w.heap.size, 4, none⟩ = some (.int .i64 hh) := by rw [← hhh]; exact blk_cell D2.out 4 _ rfl
    have b5 : w2.cell? ⟨w.heap.size, 5, none⟩ = some (.int .i64 dd) := by rw [← hdd]; exact blk_cell D2.out 5 _ rfl
    rw [hhh, hdd] at hn
    have sd : IntKind.i64.wrap (hh - dd) = hh - dd := by
      unfold rngL at hn
      exact IntWalk.i64_in _ (by omega)
    have HNM := Lib.hid (And.intro hhh hdd)
    clear hn hhh hdd
    obtain ⟨r1, hr1⟩ := bool_of (rngL ax)
    have HR1 := Lib.hid hr1
    clear hr1
    go_wp2_with fail
    refine (lvalid_any ax _ HR1.out).mono ?_
    rintro e w3 ⟨rfl, rfl⟩
    cases r1 with
    | false =>
      go_wp2_with ((with_reducible refine at_store 27 ?_); go_loud (refine wpList_store_all i1 11 hi1 hy1 rfl rfl rfl D4.out (by decide) (bxA_one zeroBx none 0 none 0) ?_); rw [row_all _ _ rfl rfl])
      refine bodyPost_ret (results_cell_tmp rfl _ i1 11 hi1 hy1 _ Try.underlying27 rfl rfl (fun j _ => by rw [Nat.zero_add]; exact cell_setRow_same _ _ _ _ _ _ _ D4.out)) rfl ?_
      exact CenPost.zero (cenE_2 HVT.out fun h => by have := HR1.out.2 h.1; simp at this) (below_setRow HBW.out (by omega) _)
    | true =>
      have HX : Hid (rngL ax) := HR1.out.1 rfl
      clear HR1
      obtain ⟨r2, hr2⟩ := bool_of (rngL (hh - dd))
      have HR2 := Lib.hid hr2
      clear hr2
      go_wp2_with fail
      refine (lvalid_any (hh - dd) _ HR2.out).mono ?_
      rintro e w4 ⟨rfl, rfl⟩
      cases r2 with
      | false =>
        go_wp2_with ((with_reducible refine at_store 27 ?_); go_loud (refine wpList_store_all i1 11 hi1 hy1 rfl rfl rfl D4.out (by decide) (bxA_one zeroBx none 0 none 0) ?_); rw [row_all _ _ rfl rfl])
        refine bodyPost_ret (results_cell_tmp rfl _ i1 11 hi1 hy1 _ Try.underlying27 rfl rfl (fun j _ => by rw [Nat.zero_add]; exact cell_setRow_same _ _ _ _ _ _ _ D4.out)) rfl ?_
        exact CenPost.zero (cenE_2 HVT.out fun h => by rw [HNM.out.1, HNM.out.2] at h; have := HR2.out.2 h.2; simp at this) (below_setRow HBW.out (by omega) _)
      | true =>
        have HOK : Hid (rngL ax ∧ rngL (b.h - b.d)) := by
          refine ⟨HX.out, ?_⟩
          rw [HNM.out.1, HNM.out.2]; exact HR2.out.1 rfl
        have HG : Hid (rngL (hh - dd)) := HR2.out.1 rfl
        clear HR2
        obtain ⟨hf, hhf⟩ : ∃ hf, halfI (hh - dd) = hf := ⟨_, rfl⟩
        have hb0 := halfI_bounds HG.out
        have ha0 := HOK.out.1
        unfold rngL at ha0
        rw [hhf] at hb0
        obtain ⟨y, hy⟩ : ∃ y, ax - hf = y := ⟨_, rfl⟩
        have sy : IntKind.i64.wrap (ax - hf) = y := by rw [← hy]; exact IntWalk.i64_in _ (by omega)
        have HY : Hid (cenY b ax = y) := by show ax - halfI (b.h - b.d) = y; rw [HNM.out.1, HNM.out.2, hhf, hy]
        have HHF := Lib.hid hhf
        have HFIT : Hid (fitB b) := proper_fit b HVT.out.1
        have HC : Hid (∀ j, j < 11 → w4.cell? ⟨w.heap.size, 0 + j, none⟩ = (bxA b A c A' c')[j]?) := fun j _ => by
          rw [Nat.zero_add]; exact cell_of_row _ _ _ _ _ _ D2.out
        clear hb0 ha0 hhf hy b4 b5
        go_wp2_with (first
            | ((with_reducible refine at_load 27 ?_); go_loud (refine wpList_load_all i1 11 hi1 hy1 _ Try.underlying27 rfl rfl HC.out ?_)))
        refine (deep_any b A c A' c' _ HL.out HFIT.out (by have := HCN.out; omega) (HK.out.1.next HBW.out) (HK.out.2.next HBW.out)).mono ?_
        rintro e w5 ⟨⟨A2, c2, A3, c3, rfl, hk5, hi5⟩, hb5⟩
        have HK5 := Lib.hid (And.intro hk5 hi5)
        have HB5 := Lib.hid hb5
        have HBW5 := Lib.hid (below_next HBW.out hb5)
        have HS4 : Hid (w.heap.size + 2 ≤ w4.heap.size) := by have := HB2.out.size; have := HW.out.2.2.2; show _ ≤ _; omega
        have HB6 : Hid (Below w5.heap.size w5 (w5.alloc (.cells (bxA b A2 c2 A3 c3) 27))) := one_below _ _
        have HD6 := Lib.hid (blk_new w5 (.cells (bxA b A2 c2 A3 c3) 27))
        have E2 := Lib.hid ((hb5.block _ (Array.getElem?_eq_some_iff.1 D2.out).1).trans D2.out)
        have E4 := Lib.hid ((hb5.block _ (Array.getElem?_eq_some_iff.1 D4.out).1).trans D4.out)
        have e4 : (w5.alloc (.cells (bxA b A2 c2 A3 c3) 27)).cell? ⟨w.heap.size, 4, none⟩ = some (.int .i64 hh) := by rw [← HNM.out.1]; exact blk_cell ((HB6.out.block _ (Array.getElem?_eq_some_iff.1 E2.out).1).trans E2.out) 4 _ rfl
        have e5 : (w5.alloc (.cells (bxA b A2 c2 A3 c3) 27)).cell? ⟨w.heap.size, 5, none⟩ = some (.int .i64 dd) := by rw [← HNM.out.2]; exact blk_cell ((HB6.out.block _ (Array.getElem?_eq_some_iff.1 E2.out).1).trans E2.out) 5 _ rfl
        clear hk5 hi5 hb5
        go_wp2_with fail
        refine (half_any (hh - dd) _ HG.out).mono ?_
        rintro e w7 ⟨rfl, hb7⟩
        rw [HHF.out]
        change Below (w5.alloc (.cells (bxA b A2 c2 A3 c3) 27)).heap.size (w5.alloc (.cells (bxA b A2 c2 A3 c3) 27)) w7 at hb7
        have HB7 : Hid (Below w5.heap.size w5 w7) := HB6.out.trans (hb7.mono HB6.out.size)
        have h6 := (hb7.block _ (Array.getElem?_eq_some_iff.1 HD6.out).1).trans HD6.out
        have n6 : (w7.setCell ⟨w5.heap.size, 7, none⟩ (.int .i64 y)).heap[w5.heap.size]? = some (.cells (bxA (b.atY y) A2 c2 A3 c3) 27 (0, 0)) := blk_set h6 7 (.int .i64 y)
        have b7 : w7.cell? ⟨w5.heap.size, 7, none⟩ = some (.int .i64 b.y) := blk_cell h6 7 _ rfl
        have z7 := blk_free h6 7
        have HB8 : Hid (Below w5.heap.size w5 (w7.setCell ⟨w5.heap.size, 7, none⟩ (.int .i64 y))) := HB7.out.setCell (p := ⟨w5.heap.size, 7, none⟩) (Nat.le_refl _) _
        have HC : Hid (∀ j, j < 11 → (w7.setCell ⟨w5.heap.size, 7, none⟩ (.int .i64 y)).cell? ⟨w5.heap.size, 0 + j, none⟩ = (bxA (b.atY y) A2 c2 A3 c3)[j]?) := fun j _ => by
          rw [Nat.zero_add]; exact cell_of_row _ _ _ _ _ _ n6
        have N6 := Lib.hid n6
        clear hb7 h6 n6 e4 e5
        obtain ⟨r3, hr3⟩ := bool_of (validB (b.atY y))
        have HR3 := Lib.hid hr3
        clear hr3
        go_wp2_with ((with_reducible refine at_load 27 ?_); go_loud (refine wpList_load_all i1 11 hi1 hy1 _ Try.underlying27 rfl rfl HC.out ?_))
        have HBW8 := Lib.hid (below_next HBW5.out HB8.out)
        have HKX : Hid (∀ X : World, Below w5.heap.size w5 X → Kids X w4.heap.size w5.heap.size A2 b.kids ∧ Ints X w4.heap.size w5.heap.size A3 b.src) := fun X hX =>
          ⟨HK5.out.1.same fun k o _ h2 => cell_of_heap (hX.block k h2), HK5.out.2.same fun k o _ h2 => cell_of_heap (hX.block k h2)⟩
        refine (bValid_any (b.atY y) A2 c2 A3 c3 _ HL.out (by have := HCN.out; rw [cntB_eq] at this ⊢; exact this) HR3.out ((HKX.out _ HB8.out).1.mono (Nat.zero_le _) HB8.out.size) ((HKX.out _ HB8.out).2.mono (Nat.zero_le _) HB8.out.size)).mono ?_
        rintro e w9 ⟨rfl, hb9⟩
        change Below (w7.setCell ⟨w5.heap.size, 7, none⟩ (.int .i64 y)).heap.size (w7.setCell ⟨w5.heap.size, 7, none⟩ (.int .i64 y)) w9 at hb9
        have HB9 : Hid (Below w5.heap.size w5 w9) := HB8.out.trans (hb9.mono HB8.out.size)
        have HBW9 := Lib.hid (below_next HBW5.out HB9.out)
        have N9 := Lib.hid ((hb9.block _ (Array.getElem?_eq_some_iff.1 N6.out).1).trans N6.out)
        have F4 := Lib.hid ((HB9.out.block _ (Array.getElem?_eq_some_iff.1 E4.out).1).trans E4.out)
        have HC9 : Hid (∀ j, j < 11 → w9.cell? ⟨w5.heap.size, 0 + j, none⟩ = (bxA (b.atY y) A2 c2 A3 c3)[j]?) := fun j _ => by
          rw [Nat.zero_add]; exact cell_of_row _ _ _ _ _ _ N9.out
        clear hb9
        cases r3 with
        | false =>
          go_wp2_with ((with_reducible refine at_store 27 ?_); go_loud (refine wpList_store_all i1 11 hi1 hy1 rfl rfl rfl F4.out (by decide) (bxA_one zeroBx none 0 none 0) ?_); rw [row_all _ _ rfl rfl])
          refine bodyPost_ret (results_cell_tmp rfl _ i1 11 hi1 hy1 _ Try.underlying27 rfl rfl (fun j _ => by rw [Nat.zero_add]; exact cell_setRow_same _ _ _ _ _ _ _ F4.out)) rfl ?_
          exact CenPost.zero (cenE_3 HVT.out HOK.out fun h => by rw [HY.out] at h; have := HR3.out.2 ((valid_atY HVT.out).2 h); simp at this) (below_setRow HBW9.out (by omega) _)
        | true =>
          have HZ : Hid (rngL y) := (valid_atY HVT.out).1 (HR3.out.1 rfl)
          clear HR3
          go_wp2_with (first
            | ((with_reducible refine at_load 27 ?_); go_loud (refine wpList_load_all i1 11 hi1 hy1 _ Try.underlying27 rfl rfl HC9.out ?_))
            | ((with_reducible refine at_store 27 ?_); go_loud (refine wpList_store_all i1 11 hi1 hy1 rfl rfl rfl F4.out (by decide) (bxA_one (b.atY y) A2 c2 A3 c3) ?_); rw [row_all _ _ rfl rfl]))
          refine bodyPost_ret (results_cell_tmp rfl _ i1 11 hi1 hy1 _ Try.underlying27 rfl rfl (fun j _ => by rw [Nat.zero_add]; exact cell_setRow_same _ _ _ _ _ _ _ F4.out)) rfl ?_
          have h0 := cenE_0 HVT.out HOK.out (by rw [HY.out]; exact HZ.out)
          rw [HY.out] at h0
          unfold CenPost
          rw [h0.1, h0.2]
          have hbf : Below w.heap.size w (w9.setRow (w.heap.size + 1) (bxA (b.atY y) A2 c2 A3 c3)) := below_setRow HBW9.out (by omega) _
          have hk := HKX.out w9 HB9.out
          have hs : w5.heap.size ≤ (w9.setRow (w.heap.size + 1) (bxA (b.atY y) A2 c2 A3 c3)).heap.size := by have := HB9.out.size; simpa using this
          have hne : ∀ k o, w4.heap.size ≤ k → (w9.setRow (w.heap.size + 1) (bxA (b.atY y) A2 c2 A3 c3)).cell? ⟨k, o, none⟩ = w9.cell? ⟨k, o, none⟩ := fun k o h1 => cell_of_heap (setRow_other _ _ _ _ (by have := HS4.out; omega))
          exact ⟨⟨A2, c2, A3, c3, rfl, (hk.1.same fun k o h1 _ => hne k o h1).mono (Nat.zero_le _) hs, (hk.2.same fun k o h1 _ => hne k o h1).mono (Nat.zero_le _) hs⟩, hbf⟩
end Go.Proofs.Ytonahgdchngabaa
