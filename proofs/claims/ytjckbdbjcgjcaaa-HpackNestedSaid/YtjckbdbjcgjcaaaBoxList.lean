/- box.List: its contract: the list of copies of the kids. -/
import Derived.Test.YtjckbdbjcgjcaaaBoxListA
import Derived.Deep.RegionLaw
namespace Go.Proofs.Ytjckbdbjcgjcaaa
open Go.RowKit Go.Deep
set_option maxRecDepth 100000 in
set_option maxHeartbeats 4000000 in
theorem list_any (W H D : Int) (l : List Bx) (A : Option Addr) (c : Nat) (w : World) (hf : ∀ i, i < l.length → fitB (kidAt l i)) (hc : cntL l ≤ 100000) (hK : Kids w 0 w.heap.size A l) :
    Calls Try.prog 59 #[.int .i64 W, .int .i64 H, .int .i64 D, .slice A l.length c] w fun e w' => (∃ A2 c2, e = .returned (.agg (bxA (listB W H D l) A2 c2 none 0)) ∧ Kids w' w.heap.size w'.heap.size A2 l) ∧ Below w.heap.size w w' := by
  obtain ⟨i1, hi1, hy0, hy1, hy2⟩ := info_parts infoBox
  have HF := Lib.hid hf
  have HCN := Lib.hid hc
  have hlen : l.length ≤ 100000 := by have := cnt_len l; omega
  have HK := Lib.hid hK
  clear hf hc hK
  obtain ⟨d0, d1, hsz, hb⟩ := two_boxes w zeroBox zeroBox 28 28
  have D1 := Lib.hid d1
  go_enter Try.func59, Try.ntmps59
  go_wp2_with ((with_reducible refine at_store 28 ?_); go_loud (refine wpList_store_all i1 11 hi1 hy1 rfl rfl rfl D1.out (by decide) (bxA_one (listB W H D []) none 0 none 0) ?_); rw [row_all _ _ rfl rfl])
  have hls : Hid (∃ A' cx Q, LS w w.heap.size l (lb W H D) 0 A' cx Q (((w.alloc (.cells zeroBox 28)).alloc (.cells zeroBox 28)).setRow (w.heap.size + 1) (bxA (listB W H D []) none 0 none 0))) := by
    refine ⟨none, 0, [], rfl, rfl, (setRow_other _ _ _ _ (by omega)).trans d0, setRow_at D1.out _, ⟨rfl, .inl ⟨rfl, rfl⟩⟩, fun q hq => (by cases hq), below_setRow hb (by omega) _, by simp⟩
  clear d0 d1 hsz hb D1
  change Code.wp _ _ _ _ (((w.alloc (.cells zeroBox 28)).alloc (.cells zeroBox 28)).setRow (w.heap.size + 1) (bxA (listB W H D []) none 0 none 0))
  generalize ((w.alloc (.cells zeroBox 28)).alloc (.cells zeroBox 28)).setRow (w.heap.size + 1) (bxA (listB W H D []) none 0 none 0) = W0 at hls ⊢
  go_loopw [18] (fun q wr => ∃ (i : Nat) (A' : Option Addr) (cx : Nat) (Q : List Q5), i ≤ l.length ∧ q = .int .i64 (i : Int) ∧ LS w w.heap.size l (lb W H D) i A' cx Q wr) (fun q _ => l.length - (intOf q).toNat)
  case atStart =>
    obtain ⟨A', cx, Q, h⟩ := hls.out
    exact ⟨0, A', cx, Q, Nat.zero_le _, rfl, h⟩
  case round =>
    obtain ⟨i, A', cx, Q, hi, rfl, hls⟩ := hrel
    have HLS := Lib.hid hls
    clear hls
    by_cases hlt : i < l.length
    · obtain ⟨kb, ko, A1, c1, A2, c2, rfl, _, hkb, hat, hk1, hi1', hl1⟩ := HK.out.at hlt
      have HC : Hid (∀ j, j < 11 → wr.cell? ⟨kb, ko + i * 11 + j, none⟩ = (bxA (kidAt l i) A1 c1 A2 c2)[j]?) := fun j hj => (HLS.out.bel.cell (p := ⟨kb, ko + i * 11 + j, none⟩) hkb).trans (hat j hj)
      have HN := Lib.hid (blk_new wr (.cells zeroBox 28))
      have HK1 := Lib.hid (And.intro hk1 (And.intro hi1' hl1))
      clear hat hk1 hi1' hl1
      go_wp2_with (first
        | ((with_reducible refine at_load 28 ?_); go_loud (refine wpList_load_all i1 11 hi1 hy1 _ Try.underlying28 rfl rfl HC.out ?_))
        | ((with_reducible refine at_store 28 ?_); go_loud (refine wpList_store_all i1 11 hi1 hy1 rfl rfl rfl HN.out (by decide) (bxA_one _ _ _ _ _) ?_); rw [row_all _ _ rfl rfl]))
      have HB1 : Hid (Below wr.heap.size wr ((wr.alloc (.cells zeroBox 28)).setRow wr.heap.size (bxA (kidAt l i) A1 c1 A2 c2))) := below_setRow (one_below _ _) (Nat.le_refl _) _
      have HD1 : Hid (((wr.alloc (.cells zeroBox 28)).setRow wr.heap.size (bxA (kidAt l i) A1 c1 A2 c2)).heap[wr.heap.size]? = some (.cells (bxA (kidAt l i) A1 c1 A2 c2) 28 (0, 0))) := setRow_at HN.out _
      change Code.wp _ _ _ _ ((wr.alloc (.cells zeroBox 28)).setRow wr.heap.size (bxA (kidAt l i) A1 c1 A2 c2))
      generalize (wr.alloc (.cells zeroBox 28)).setRow wr.heap.size (bxA (kidAt l i) A1 c1 A2 c2) = W1 at HB1 HD1 ⊢
      clear HC HN
      have HCT : Hid (∀ W', Below wr.heap.size wr W' → Calls Try.prog 49 #[.agg (bxA (kidAt l i) A1 c1 A2 c2)] W' fun e w' => (∃ A2 c2 A3 c3, e = .returned (.agg (bxA (kidAt l i) A2 c2 A3 c3)) ∧ Kids w' W'.heap.size w'.heap.size A2 (kidAt l i).kids ∧ Ints w' W'.heap.size w'.heap.size A3 (kidAt l i).src) ∧ Below W'.heap.size W' w') := fun W' hb => by
        have hbw : Below w.heap.size w W' := below_next HLS.out.bel hb
        exact deep_any (kidAt l i) A1 c1 A2 c2 W' HK1.out.2.2 (HF.out i hlt) (by have := cnt_kid l hlt; have := HCN.out; omega) (HK1.out.1.next hbw) (HK1.out.2.1.next hbw)
      have y8 : W1.drew.cell? ⟨w.heap.size + 1, 8, none⟩ = some (.slice A' i cx) := blk_cell (W := W1.drew) ((HB1.out.block _ (by have := HLS.out.siz; omega)).trans HLS.out.box) 8 _ rfl
      have k0 : W1.drew.cell? ⟨wr.heap.size, 0, none⟩ = some (.int .i64 (kidAt l i).k) := blk_cell (W := W1.drew) HD1.out 0 _ rfl
      have k1 : W1.drew.cell? ⟨wr.heap.size, 1, none⟩ = some (.string (kidAt l i).nm) := blk_cell (W := W1.drew) HD1.out 1 _ rfl
      have k2 : W1.drew.cell? ⟨wr.heap.size, 2, none⟩ = some (.int .i64 (kidAt l i).sz) := blk_cell (W := W1.drew) HD1.out 2 _ rfl
      have k3 : W1.drew.cell? ⟨wr.heap.size, 3, none⟩ = some (.int .i64 (kidAt l i).w) := blk_cell (W := W1.drew) HD1.out 3 _ rfl
      have k4 : W1.drew.cell? ⟨wr.heap.size, 4, none⟩ = some (.int .i64 (kidAt l i).h) := blk_cell (W := W1.drew) HD1.out 4 _ rfl
      have k5 : W1.drew.cell? ⟨wr.heap.size, 5, none⟩ = some (.int .i64 (kidAt l i).d) := blk_cell (W := W1.drew) HD1.out 5 _ rfl
      have k6 : W1.drew.cell? ⟨wr.heap.size, 6, none⟩ = some (.int .i64 (kidAt l i).x) := blk_cell (W := W1.drew) HD1.out 6 _ rfl
      have k7 : W1.drew.cell? ⟨wr.heap.size, 7, none⟩ = some (.int .i64 (kidAt l i).y) := blk_cell (W := W1.drew) HD1.out 7 _ rfl
      have k8 : W1.drew.cell? ⟨wr.heap.size, 8, none⟩ = some (.slice A1 (kidAt l i).kids.length c1) := blk_cell (W := W1.drew) HD1.out 8 _ rfl
      have k9 : W1.drew.cell? ⟨wr.heap.size, 9, none⟩ = some (.int .i64 (kidAt l i).of_) := blk_cell (W := W1.drew) HD1.out 9 _ rfl
      have k10 : W1.drew.cell? ⟨wr.heap.size, 10, none⟩ = some (.slice A2 (kidAt l i).src.length c2) := blk_cell (W := W1.drew) HD1.out 10 _ rfl
      go_region_law (first
        | (refine step_append_own rfl (.tmp 23) (.tmp 26) 22 28 rfl i1 _ 11 128 Try.underlying22 hi1 hy0 hy1 hy2 rfl (by omega) rfl (own_below HLS.out.own (HB4.out.alloc HB4.out.size _)) rfl (heap_alloc_new _ _) rfl (bxA_one _ _ _ _ _) (by unfold maxLen; omega) (by omega) (by have := HLS.out.siz; have := HB4.out.size; rw [World.size_alloc]; omega) ?_; intro A5 c5 w5 hown5 hg5 ho5; have d5 := HLS.out.kept (HB4.out.alloc HB4.out.size _) hg5; have y5 : w5.cell? ⟨w.heap.size + 1, 8, none⟩ = some (.slice A' i cx) := blk_cell d5 8 _ rfl; have z5 := blk_free d5 8; have HL5 := Lib.hid (And.intro hown5 (And.intro hg5 ho5)); clear d5 hown5 hg5 ho5)
        | (go_simp; go_at_call 49; refine (HCT.out _ HB1.out.drew).mono ?_; rintro e w4 ⟨⟨A3, c3, A4, c4, rfl, hk4, hi4⟩, hb4⟩; have HB4 : Hid (Below wr.heap.size wr w4) := below_next HB1.out.drew hb4; have HK4 := Lib.hid (And.intro hk4 hi4); have d4 := (HB4.out.block (w.heap.size + 1) (by have := HLS.out.siz; omega)).trans HLS.out.box; have y4 : w4.cell? ⟨w.heap.size + 1, 8, none⟩ = some (.slice A' i cx) := blk_cell d4 8 _ rfl; have x4 : (w4.alloc (.cells (bxA (kidAt l i) A3 c3 A4 c4) 28)).cell? ⟨w.heap.size + 1, 8, none⟩ = some (.slice A' i cx) := blk_cell (blk_more d4 _) 8 _ rfl; clear hk4 hi4 hb4 d4))
      all_goals
        have HLS2 : Hid (LS w w.heap.size l (lb W H D) (i + 1) A5 c5 (Q ++ [⟨kidAt l i, A3, c3, A4, c4⟩]) (w5.setCell ⟨w.heap.size + 1, 8, none⟩ (.slice A5 (i + 1) c5))) := by
          have hs1 : wr.heap.size ≤ W1.drew.heap.size := HB1.out.drew.size
          have hl5 : Lies (w4.alloc (.cells (bxA (kidAt l i) A3 c3 A4 c4) 28)) wr.heap.size (w4.alloc (.cells (bxA (kidAt l i) A3 c3 A4 c4) 28)).heap.size ⟨kidAt l i, A3, c3, A4, c4⟩ :=
            ⟨(HK4.out.1.next (one_below _ _)).mono hs1 (Nat.le_refl _), (HK4.out.2.next (one_below _ _)).mono hs1 (Nat.le_refl _), HK1.out.2.2⟩
          exact HLS.out.next rfl (fun _ _ _ _ _ _ => rfl) hlt rfl (HB4.out.alloc HB4.out.size _) hl5 HL5.out.1 HL5.out.2.1 HL5.out.2.2
        clear HLS HL5 y5 z5 y8 y4 x4 HK4
        clear k0 k1 k2 k3 k4 k5 k6 k7 k8 k9 k10
        go_wp2_with fail
        go_roundw
        case rel => exact ⟨i + 1, A5, c5, _, by omega, by go_num, HLS2.out⟩
        case measure => simp [intOf]; omega
    · obtain rfl : i = l.length := by omega
      have D1 : Hid (wr.heap[w.heap.size]? = some (.cells zeroBox 28 (0, 0))) := HLS.out.zero
      have HC : Hid (∀ j, j < 11 → wr.cell? ⟨w.heap.size + 1, 0 + j, none⟩ = (bxA (listB W H D l) A' cx none 0)[j]?) := fun j _ => by rw [Nat.zero_add]; exact cell_of_row _ _ _ _ _ _ HLS.out.box
      go_wp2_with (first
        | ((with_reducible refine at_load 28 ?_); go_loud (refine wpList_load_all i1 11 hi1 hy1 _ Try.underlying28 rfl rfl HC.out ?_))
        | ((with_reducible refine at_store 28 ?_); go_loud (refine wpList_store_all i1 11 hi1 hy1 rfl rfl rfl D1.out (by decide) (bxA_one _ _ _ _ _) ?_); rw [row_all _ _ rfl rfl]))
      refine bodyPost_ret (results_cell_all rfl _ i1 11 hi1 hy1 _ Try.underlying28 rfl rfl (fun j _ => by rw [Nat.zero_add]; exact cell_setRow_same _ _ _ _ _ _ _ D1.out)) rfl ?_
      refine ⟨⟨A', cx, rfl, ?_⟩, below_setRow HLS.out.bel (Nat.le_refl _) _⟩
      exact ((HLS.out.kids rfl).same fun b o h1 _ => cell_of_heap (setRow_other _ _ _ _ (by omega))).mono (by omega) (by simp)
end Go.Proofs.Ytjckbdbjcgjcaaa
