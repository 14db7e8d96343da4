/- Align, of the program and of the reference: the walks. Printed by gen_align.py. -/
import Derived.Test.YtjckbdbjcgjcaaaHpRRow
namespace Go.Proofs.Ytjckbdbjcgjcaaa
open Go.RowKit
def alX (b : Bx) (wd md : Int) : Int := if md = 0 then 0 else if md = 1 then halfI (wd - b.w) else wd - b.w
def alOk (b : Bx) (wd md : Int) : Prop := rngL wd ∧ rngL (wd - b.w) ∧ 0 ≤ md ∧ md ≤ 2
open Classical in
noncomputable def alE (b : Bx) (wd md : Int) : Int := if validB b then (if alOk b wd md then putE [b] (fun _ => alX b wd md) wd else 2) else 1
open Classical in
noncomputable def alR (b : Bx) (wd md : Int) : Bx := if validB b then (if alOk b wd md then putR [b] (fun _ => alX b wd md) wd else zeroBx) else zeroBx
theorem al_1 {b : Bx} {wd md : Int} (h : ¬ validB b) : alE b wd md = 1 ∧ alR b wd md = zeroBx := ⟨by unfold alE; rw [if_neg h], by unfold alR; rw [if_neg h]⟩
theorem al_2 {b : Bx} {wd md : Int} (h : validB b) (h2 : ¬ alOk b wd md) : alE b wd md = 2 ∧ alR b wd md = zeroBx := ⟨by unfold alE; rw [if_pos h, if_neg h2], by unfold alR; rw [if_pos h, if_neg h2]⟩
theorem al_3 {b : Bx} {wd md : Int} (h : validB b) (h2 : alOk b wd md) : alE b wd md = putE [b] (fun _ => alX b wd md) wd ∧ alR b wd md = putR [b] (fun _ => alX b wd md) wd := ⟨by unfold alE; rw [if_pos h, if_pos h2], by unfold alR; rw [if_pos h, if_pos h2]⟩
/-- The box alone in a row, and its place alone in a list. -/
theorem one_row {w : World} {b : Bx} {A : Option Addr} {c : Nat} {A' : Option Addr} {c' : Nat} (x : Int) (hl : lens b) (hK : Kids w 0 w.heap.size A b.kids) (hI : Ints w 0 w.heap.size A' b.src) :
    Kids ((w.alloc (.cells (bxA b A c A' c') 28)).alloc (.cells #[.int .i64 x] 3)) 0 ((w.alloc (.cells (bxA b A c A' c') 28)).alloc (.cells #[.int .i64 x] 3)).heap.size (some ⟨w.heap.size, 0, none⟩) [b] ∧
    Ints ((w.alloc (.cells (bxA b A c A' c') 28)).alloc (.cells #[.int .i64 x] 3)) 0 ((w.alloc (.cells (bxA b A c A' c') 28)).alloc (.cells #[.int .i64 x] 3)).heap.size (some ⟨w.heap.size + 1, 0, none⟩) [x] := by
  have h0 := blk_more (blk_new w (.cells (bxA b A c A' c') 28)) (.cells #[.int .i64 x] 3)
  have h1 := blk_new (w.alloc (.cells (bxA b A c A' c') 28)) (.cells #[.int .i64 x] 3)
  have hb := two_below w (.cells (bxA b A c A' c') 28) (.cells #[.int .i64 x] 3)
  rw [World.size_alloc] at h1
  refine ⟨?_, fun _ => ⟨_, 0, rfl, Nat.zero_le _, by simp, fun k hk => ?_⟩⟩
  · refine kids_row (Q := [⟨b, A, c, A', c'⟩]) (fun k u hu => ?_) (Nat.zero_le _) (by simp; omega) fun q hq => ?_
    · rw [Nat.zero_add]
      exact blk_cell h0 k u (by rw [rowC_one] at hu; unfold Q5.cells at hu; rw [Array.getElem?_toList] at hu; exact hu)
    · obtain rfl : q = _ := by simpa using hq
      exact ⟨hK.next hb, hI.next hb, hl⟩
  · obtain rfl : k = 0 := by simp at hk; omega
    exact blk_cell h1 0 _ rfl
theorem one_rowIn {w wz : World} {b : Bx} {A : Option Addr} {c : Nat} {A' : Option Addr} {c' : Nat} (x : Int) (hl : lens b) (hK : Kids w 0 w.heap.size A b.kids) (hI : Ints w 0 w.heap.size A' b.src) (hb : Below w.heap.size w wz) :
    RowIn ((wz.alloc (.cells (bxA b A c A' c') 28)).alloc (.cells #[.int .i64 x] 3)) w.heap.size (some ⟨wz.heap.size, 0, none⟩) [b] := fun i hi => by
  obtain rfl : i = 0 := by simp at hi; omega
  have h0 := blk_more (blk_new wz (.cells (bxA b A c A' c') 28)) (.cells #[.int .i64 x] 3)
  have hb2 := below_next hb (two_below wz (.cells (bxA b A c A' c') 28) (.cells #[.int .i64 x] 3))
  refine ⟨wz.heap.size, 0, A, c, A', c', rfl, Nat.zero_le _, by simp; omega, fun j _ => ?_, hK.low hb2, hI.below hb2, hl⟩
  rw [Nat.zero_mul, Nat.zero_add]
  exact cell_of_row _ _ _ _ _ _ h0
theorem one_all {b : Bx} (h : validB b) : allV [b] := fun i hi => by
  obtain rfl : i = 0 := by simp at hi; omega
  exact h
theorem one_cnt (b : Bx) : cntL [b] = cntB b := by rw [cntL_cons, cntL_nil]; omega
theorem mode_of {md : Int} (h0 : 0 ≤ md) (h2 : md ≤ 2) : md = 0 ∨ md = 1 ∨ md = 2 := by omega

set_option maxRecDepth 100000 in
set_option maxHeartbeats 2000000 in
theorem halign_any (b : Bx) (A : Option Addr) (c : Nat) (A' : Option Addr) (c' : Nat) (wd md : Int) (w : World) (hl : lens b) (hc : cntB b ≤ 1000) (hK : Kids w 0 w.heap.size A b.kids) (hI : Ints w 0 w.heap.size A' b.src) :
    Calls Try.prog 22 #[.agg (bxA b A c A' c'), .int .i64 wd, .int .i64 md] w (PPost w.heap.size (alR b wd md) (alE b wd md) w) := by
  obtain ⟨i1, hi1, hy0, hy1, hy2⟩ := info_parts infoBox
  have HCN := Lib.hid hc
  have HL := Lib.hid hl
  have HK := Lib.hid (And.intro hK hI)
  obtain ⟨v, hv⟩ := bool_of (validB b)
  have HV := Lib.hid hv
  clear hc hK hI hv hl
  obtain ⟨d0, d1, hsz, hb⟩ := two_boxes w (bxA b A c A' c') zeroBox 28 28
  have HC0 : Hid (∀ j, j < 11 → ((w.alloc (.cells (bxA b A c A' c') 28)).alloc (.cells zeroBox 28)).cell? ⟨w.heap.size, 0 + j, none⟩ = (bxA b A c A' c')[j]?) := fun j _ => by
    rw [Nat.zero_add]; exact cell_of_row _ _ _ _ _ _ d0
  have HD := Lib.hid (And.intro d0 (And.intro d1 (And.intro hsz hb)))
  clear d0 d1 hsz hb
  go_enter Try.func22, Try.ntmps22
  go_wp2_with ((with_reducible refine at_load 28 ?_); go_loud (refine wpList_load_all i1 11 hi1 hy1 _ Try.underlying28 rfl rfl HC0.out ?_))
  refine (bValid_any b A c A' c' ((w.alloc (.cells (bxA b A c A' c') 28)).alloc (.cells zeroBox 28)) HL.out (by have := HCN.out; omega) HV.out (HK.out.1.next HD.out.2.2.2) (HK.out.2.next HD.out.2.2.2)).mono ?_
  rintro e w1 ⟨rfl, hb1⟩
  have hss := HD.out.2.2.1
  have HZ : Hid (w1.heap[w.heap.size + 1]? = some (.cells zeroBox 28 (0, 0))) := (hb1.block _ (by omega)).trans HD.out.2.1
  have HX : Hid (w1.heap[w.heap.size]? = some (.cells (bxA b A c A' c') 28 (0, 0))) := (hb1.block _ (by omega)).trans HD.out.1
  have HB1 : Hid (Below w.heap.size w w1) := below_next HD.out.2.2.2 hb1
  clear hb1 hss
  cases v with
  | false =>
    go_wp2_with ((with_reducible refine at_store 28 ?_); go_loud (refine wpList_store_all i1 11 hi1 hy1 rfl rfl rfl HZ.out (by decide) (bxA_one zeroBx none 0 none 0) ?_); rw [row_all _ _ rfl rfl])
    refine bodyPost_ret (results_cell_tmp rfl _ i1 11 hi1 hy1 _ Try.underlying28 rfl rfl (fun j _ => by rw [Nat.zero_add]; exact cell_setRow_same _ _ _ _ _ _ _ HZ.out)) rfl ?_
    exact PPost.zero (al_1 fun h => by have := HV.out.2 h; simp at this) (below_setRow HB1.out (by omega) _)
  | true =>
    have HVB : Hid (validB b) := HV.out.1 rfl
    clear HV
    obtain ⟨ww, hww⟩ : ∃ ww, b.w = ww := ⟨_, rfl⟩
    have hwr := ((properB_eq _).1 HVB.out.1).1.1 0 (by omega)
    have hwr2 : rngL b.w := hwr
    rw [hww] at hwr2
    have x3 : w1.cell? ⟨w.heap.size, 3, none⟩ = some (.int .i64 ww) := by rw [← hww]; exact blk_cell HX.out 3 _ rfl
    obtain ⟨rr, hrr⟩ : ∃ rr, IntKind.i64.wrap (wd - ww) = rr := ⟨_, rfl⟩
    obtain ⟨v1, hv1⟩ := bool_of (rngL wd)
    obtain ⟨v2, hv2⟩ := bool_of (rngL rr)
    have HV1 := Lib.hid hv1
    have HV2 := Lib.hid hv2
    have HWW := Lib.hid hww
    have HWR := Lib.hid hwr2
    have HRR := Lib.hid hrr
    clear hv1 hv2 hwr hwr2 hww
    have sr : IntKind.i64.wrap (wd - ww) = rr := hrr
    clear hrr
    go_wp2_with fail
    refine (lvalid_any wd w1 HV1.out).mono ?_
    rintro e w2 ⟨rfl, hw2⟩
    subst hw2
    cases v1 with
    | false =>
      go_wp2_with ((with_reducible refine at_store 28 ?_); go_loud (refine wpList_store_all i1 11 hi1 hy1 rfl rfl rfl HZ.out (by decide) (bxA_one zeroBx none 0 none 0) ?_); rw [row_all _ _ rfl rfl])
      refine bodyPost_ret (results_cell_tmp rfl _ i1 11 hi1 hy1 _ Try.underlying28 rfl rfl (fun j _ => by rw [Nat.zero_add]; exact cell_setRow_same _ _ _ _ _ _ _ HZ.out)) rfl ?_
      exact PPost.zero (al_2 HVB.out fun h => by have h2 := HV1.out.2 h.1; simp at h2) (below_setRow HB1.out (by omega) _)
    | true =>
      have HW : Hid (rngL wd) := HV1.out.1 rfl
      have HRE : Hid (rr = wd - b.w) := by
        have h1 := HW.out
        have h2 := HWR.out
        have h3 := HRR.out
        unfold rngL at h1 h2
        show rr = wd - b.w
        rw [HWW.out, ← h3]
        exact IntWalk.i64_in _ (by omega)
      clear HV1
      go_wp2_with fail
      refine (lvalid_any rr w2 HV2.out).mono ?_
      rintro e w3 ⟨rfl, hw3⟩
      subst hw3
      cases v2 with
      | false =>
        go_wp2_with ((with_reducible refine at_store 28 ?_); go_loud (refine wpList_store_all i1 11 hi1 hy1 rfl rfl rfl HZ.out (by decide) (bxA_one zeroBx none 0 none 0) ?_); rw [row_all _ _ rfl rfl])
        refine bodyPost_ret (results_cell_tmp rfl _ i1 11 hi1 hy1 _ Try.underlying28 rfl rfl (fun j _ => by rw [Nat.zero_add]; exact cell_setRow_same _ _ _ _ _ _ _ HZ.out)) rfl ?_
        exact PPost.zero (al_2 HVB.out fun h => by have h2 := HV2.out.2 (by rw [HRE.out]; exact h.2.1); simp at h2) (below_setRow HB1.out (by omega) _)
      | true =>
        have HR2 : Hid (rngL (wd - b.w)) := by rw [← HRE.out]; exact HV2.out.1 rfl
        have HRR2 : Hid (rngL rr) := HV2.out.1 rfl
        clear HV2
        by_cases hm0 : 0 ≤ md
        case neg =>
          have HM := Lib.hid hm0
          have q1 : md < 0 := by omega
          clear hm0
          go_wp2_with ((with_reducible refine at_store 28 ?_); go_loud (refine wpList_store_all i1 11 hi1 hy1 rfl rfl rfl HZ.out (by decide) (bxA_one zeroBx none 0 none 0) ?_); rw [row_all _ _ rfl rfl])
          refine bodyPost_ret (results_cell_tmp rfl _ i1 11 hi1 hy1 _ Try.underlying28 rfl rfl (fun j _ => by rw [Nat.zero_add]; exact cell_setRow_same _ _ _ _ _ _ _ HZ.out)) rfl ?_
          exact PPost.zero (al_2 HVB.out fun h => by have h3 := h.2.2.1; have h4 := HM.out; omega) (below_setRow HB1.out (by omega) _)
        by_cases hm2 : md ≤ 2
        case neg =>
          have HM := Lib.hid hm2
          have q1 : ¬ md < 0 := by omega
          have q2 : 2 < md := by omega
          clear hm2
          go_wp2_with ((with_reducible refine at_store 28 ?_); go_loud (refine wpList_store_all i1 11 hi1 hy1 rfl rfl rfl HZ.out (by decide) (bxA_one zeroBx none 0 none 0) ?_); rw [row_all _ _ rfl rfl])
          refine bodyPost_ret (results_cell_tmp rfl _ i1 11 hi1 hy1 _ Try.underlying28 rfl rfl (fun j _ => by rw [Nat.zero_add]; exact cell_setRow_same _ _ _ _ _ _ _ HZ.out)) rfl ?_
          exact PPost.zero (al_2 HVB.out fun h => by have h3 := h.2.2.2; have h4 := HM.out; omega) (below_setRow HB1.out (by omega) _)
        have HOK : Hid (alOk b wd md) := ⟨HW.out, HR2.out, hm0, hm2⟩
        have hpe := al_3 HVB.out HOK.out
        have HPE := Lib.hid hpe
        clear hpe
        rcases mode_of hm0 hm2 with rfl | rfl | rfl
        · obtain ⟨wz, hwz⟩ : ∃ wz, wz = w3 := ⟨_, rfl⟩
          have hbz : Below w3.heap.size w3 wz := by rw [hwz]; exact Below.refl _ _
          rw [← hwz]
          clear hwz
          have HBZ := Lib.hid (below_next HB1.out hbz)
          have HZZ : Hid (wz.heap[w.heap.size + 1]? = some (.cells zeroBox 28 (0, 0))) := (hbz.block _ (Array.getElem?_eq_some_iff.1 HZ.out).1).trans HZ.out
          have HXZ : Hid (wz.heap[w.heap.size]? = some (.cells (bxA b A c A' c') 28 (0, 0))) := (hbz.block _ (Array.getElem?_eq_some_iff.1 HX.out).1).trans HX.out
          have HCZ : Hid (∀ j, j < 11 → wz.cell? ⟨w.heap.size, 0 + j, none⟩ = (bxA b A c A' c')[j]?) := fun j _ => by rw [Nat.zero_add]; exact cell_of_row _ _ _ _ _ _ HXZ.out
          have xz : wz.cell? ⟨w.heap.size, 3, none⟩ = some (.int .i64 ww) := by rw [← HWW.out]; exact blk_cell HXZ.out 3 _ rfl
          clear hbz
          go_wp2_with ((with_reducible refine at_load 28 ?_); go_loud (refine wpList_load_all i1 11 hi1 hy1 _ Try.underlying28 rfl rfl HCZ.out ?_))
          have hone := one_row (w := wz) (b := b) (A := A) (c := c) (A' := A') (c' := c') (0) HL.out (HK.out.1.next HBZ.out) (HK.out.2.next HBZ.out)
          have hbz := below_next HBZ.out (two_below wz (.cells (bxA b A c A' c') 28) (.cells #[.int .i64 0] 3))
          have hput := put_congr (l := [b]) (P := (lAt [0])) (P' := fun _ => alX b wd 0) wd fun i hi => by
            obtain rfl : i = 0 := by simp at hi; omega
            show (0 : Int) = 0; rfl
          change Calls Try.prog _ #[.slice (some ⟨wz.heap.size, 0, none⟩) [b].length 1, .slice (some ⟨wz.heap.size + 1, 0, none⟩) [b].length 1, .int .i64 wd] ((wz.alloc (.cells (bxA b A c A' c') 28)).alloc (.cells #[.int .i64 0] 3)) _
          refine (hlist_any w.heap.size (some ⟨wz.heap.size, 0, none⟩) [b] 1 (some ⟨wz.heap.size + 1, 0, none⟩) [0] 1 wd ((wz.alloc (.cells (bxA b A c A' c') 28)).alloc (.cells #[.int .i64 0] 3)) (by rw [one_cnt]; exact HCN.out) (one_all HVB.out) rfl hone.1 hone.2).mono ?_
          rintro e w5 hp5
          rw [hput.1, hput.2, ← HPE.out.1, ← HPE.out.2] at hp5
          have hzl := (Array.getElem?_eq_some_iff.1 HZZ.out).1
          obtain ⟨A2, c2, rfl, hz5, hp6⟩ := PPost.up (w := w) (z := w.heap.size + 1) hp5 (by omega) (by simp; omega) rfl (below_next hbz hp5.2) ((hp5.2.block _ (by simp; omega)).trans (blk_more (blk_more HZZ.out _) _))
          have HP6 := Lib.hid hp6
          have HZ5 := Lib.hid hz5
          clear hp5 hp6 hz5 hone hbz hput
          go_wp2_with ((with_reducible refine at_store 28 ?_); go_loud (refine wpList_store_all i1 11 hi1 hy1 rfl rfl rfl HZ5.out (by decide) (bxA_one (alR b wd 0) A2 c2 none 0) ?_); rw [row_all _ _ rfl rfl])
          refine bodyPost_ret (results_cell_tmp rfl _ i1 11 hi1 hy1 _ Try.underlying28 rfl rfl (fun j _ => by rw [Nat.zero_add]; exact cell_setRow_same _ _ _ _ _ _ _ HZ5.out)) rfl ?_
          exact HP6.out
        · go_wp2_with fail
          refine (half_any rr w3 HRR2.out).mono ?_
          rintro e wz ⟨rfl, hbz⟩
          have HBZ := Lib.hid (below_next HB1.out hbz)
          have HZZ : Hid (wz.heap[w.heap.size + 1]? = some (.cells zeroBox 28 (0, 0))) := (hbz.block _ (Array.getElem?_eq_some_iff.1 HZ.out).1).trans HZ.out
          have HXZ : Hid (wz.heap[w.heap.size]? = some (.cells (bxA b A c A' c') 28 (0, 0))) := (hbz.block _ (Array.getElem?_eq_some_iff.1 HX.out).1).trans HX.out
          have HCZ : Hid (∀ j, j < 11 → wz.cell? ⟨w.heap.size, 0 + j, none⟩ = (bxA b A c A' c')[j]?) := fun j _ => by rw [Nat.zero_add]; exact cell_of_row _ _ _ _ _ _ HXZ.out
          have xz : wz.cell? ⟨w.heap.size, 3, none⟩ = some (.int .i64 ww) := by rw [← HWW.out]; exact blk_cell HXZ.out 3 _ rfl
          clear hbz
          obtain ⟨hx, hhx⟩ : ∃ hx, halfI rr = hx := ⟨_, rfl⟩
          have HHX := Lib.hid hhx
          rw [hhx]
          clear hhx
          go_wp2_with ((with_reducible refine at_load 28 ?_); go_loud (refine wpList_load_all i1 11 hi1 hy1 _ Try.underlying28 rfl rfl HCZ.out ?_))
          have hone := one_row (w := wz) (b := b) (A := A) (c := c) (A' := A') (c' := c') (hx) HL.out (HK.out.1.next HBZ.out) (HK.out.2.next HBZ.out)
          have hbz := below_next HBZ.out (two_below wz (.cells (bxA b A c A' c') 28) (.cells #[.int .i64 hx] 3))
          have hput := put_congr (l := [b]) (P := (lAt [hx])) (P' := fun _ => alX b wd 1) wd fun i hi => by
            obtain rfl : i = 0 := by simp at hi; omega
            show hx = halfI (wd - b.w); rw [← HHX.out, HRE.out]
          change Calls Try.prog _ #[.slice (some ⟨wz.heap.size, 0, none⟩) [b].length 1, .slice (some ⟨wz.heap.size + 1, 0, none⟩) [b].length 1, .int .i64 wd] ((wz.alloc (.cells (bxA b A c A' c') 28)).alloc (.cells #[.int .i64 hx] 3)) _
          refine (hlist_any w.heap.size (some ⟨wz.heap.size, 0, none⟩) [b] 1 (some ⟨wz.heap.size + 1, 0, none⟩) [hx] 1 wd ((wz.alloc (.cells (bxA b A c A' c') 28)).alloc (.cells #[.int .i64 hx] 3)) (by rw [one_cnt]; exact HCN.out) (one_all HVB.out) rfl hone.1 hone.2).mono ?_
          rintro e w5 hp5
          rw [hput.1, hput.2, ← HPE.out.1, ← HPE.out.2] at hp5
          have hzl := (Array.getElem?_eq_some_iff.1 HZZ.out).1
          obtain ⟨A2, c2, rfl, hz5, hp6⟩ := PPost.up (w := w) (z := w.heap.size + 1) hp5 (by omega) (by simp; omega) rfl (below_next hbz hp5.2) ((hp5.2.block _ (by simp; omega)).trans (blk_more (blk_more HZZ.out _) _))
          have HP6 := Lib.hid hp6
          have HZ5 := Lib.hid hz5
          clear hp5 hp6 hz5 hone hbz hput
          go_wp2_with ((with_reducible refine at_store 28 ?_); go_loud (refine wpList_store_all i1 11 hi1 hy1 rfl rfl rfl HZ5.out (by decide) (bxA_one (alR b wd 1) A2 c2 none 0) ?_); rw [row_all _ _ rfl rfl])
          refine bodyPost_ret (results_cell_tmp rfl _ i1 11 hi1 hy1 _ Try.underlying28 rfl rfl (fun j _ => by rw [Nat.zero_add]; exact cell_setRow_same _ _ _ _ _ _ _ HZ5.out)) rfl ?_
          exact HP6.out
        · obtain ⟨wz, hwz⟩ : ∃ wz, wz = w3 := ⟨_, rfl⟩
          have hbz : Below w3.heap.size w3 wz := by rw [hwz]; exact Below.refl _ _
          rw [← hwz]
          clear hwz
          have HBZ := Lib.hid (below_next HB1.out hbz)
          have HZZ : Hid (wz.heap[w.heap.size + 1]? = some (.cells zeroBox 28 (0, 0))) := (hbz.block _ (Array.getElem?_eq_some_iff.1 HZ.out).1).trans HZ.out
          have HXZ : Hid (wz.heap[w.heap.size]? = some (.cells (bxA b A c A' c') 28 (0, 0))) := (hbz.block _ (Array.getElem?_eq_some_iff.1 HX.out).1).trans HX.out
          have HCZ : Hid (∀ j, j < 11 → wz.cell? ⟨w.heap.size, 0 + j, none⟩ = (bxA b A c A' c')[j]?) := fun j _ => by rw [Nat.zero_add]; exact cell_of_row _ _ _ _ _ _ HXZ.out
          have xz : wz.cell? ⟨w.heap.size, 3, none⟩ = some (.int .i64 ww) := by rw [← HWW.out]; exact blk_cell HXZ.out 3 _ rfl
          clear hbz
          go_wp2_with ((with_reducible refine at_load 28 ?_); go_loud (refine wpList_load_all i1 11 hi1 hy1 _ Try.underlying28 rfl rfl HCZ.out ?_))
          have hone := one_row (w := wz) (b := b) (A := A) (c := c) (A' := A') (c' := c') (rr) HL.out (HK.out.1.next HBZ.out) (HK.out.2.next HBZ.out)
          have hbz := below_next HBZ.out (two_below wz (.cells (bxA b A c A' c') 28) (.cells #[.int .i64 rr] 3))
          have hput := put_congr (l := [b]) (P := (lAt [rr])) (P' := fun _ => alX b wd 2) wd fun i hi => by
            obtain rfl : i = 0 := by simp at hi; omega
            show rr = wd - b.w; exact HRE.out
          change Calls Try.prog _ #[.slice (some ⟨wz.heap.size, 0, none⟩) [b].length 1, .slice (some ⟨wz.heap.size + 1, 0, none⟩) [b].length 1, .int .i64 wd] ((wz.alloc (.cells (bxA b A c A' c') 28)).alloc (.cells #[.int .i64 rr] 3)) _
          refine (hlist_any w.heap.size (some ⟨wz.heap.size, 0, none⟩) [b] 1 (some ⟨wz.heap.size + 1, 0, none⟩) [rr] 1 wd ((wz.alloc (.cells (bxA b A c A' c') 28)).alloc (.cells #[.int .i64 rr] 3)) (by rw [one_cnt]; exact HCN.out) (one_all HVB.out) rfl hone.1 hone.2).mono ?_
          rintro e w5 hp5
          rw [hput.1, hput.2, ← HPE.out.1, ← HPE.out.2] at hp5
          have hzl := (Array.getElem?_eq_some_iff.1 HZZ.out).1
          obtain ⟨A2, c2, rfl, hz5, hp6⟩ := PPost.up (w := w) (z := w.heap.size + 1) hp5 (by omega) (by simp; omega) rfl (below_next hbz hp5.2) ((hp5.2.block _ (by simp; omega)).trans (blk_more (blk_more HZZ.out _) _))
          have HP6 := Lib.hid hp6
          have HZ5 := Lib.hid hz5
          clear hp5 hp6 hz5 hone hbz hput
          go_wp2_with ((with_reducible refine at_store 28 ?_); go_loud (refine wpList_store_all i1 11 hi1 hy1 rfl rfl rfl HZ5.out (by decide) (bxA_one (alR b wd 2) A2 c2 none 0) ?_); rw [row_all _ _ rfl rfl])
          refine bodyPost_ret (results_cell_tmp rfl _ i1 11 hi1 hy1 _ Try.underlying28 rfl rfl (fun j _ => by rw [Nat.zero_add]; exact cell_setRow_same _ _ _ _ _ _ _ HZ5.out)) rfl ?_
          exact HP6.out

set_option maxRecDepth 100000 in
set_option maxHeartbeats 2000000 in
theorem ralign_any (b : Bx) (A : Option Addr) (c : Nat) (A' : Option Addr) (c' : Nat) (wd md : Int) (w : World) (hl : lens b) (hc : cntB b ≤ 1000) (hK : Kids w 0 w.heap.size A b.kids) (hI : Ints w 0 w.heap.size A' b.src) :
    Calls Try.prog 24 #[.agg (bxA b A c A' c'), .int .i64 wd, .int .i64 md] w (PPost w.heap.size (alR b wd md) (alE b wd md) w) := by
  obtain ⟨i1, hi1, hy0, hy1, hy2⟩ := info_parts infoBox
  have HCN := Lib.hid hc
  have HL := Lib.hid hl
  have HK := Lib.hid (And.intro hK hI)
  obtain ⟨v, hv⟩ := bool_of (validB b)
  have HV := Lib.hid hv
  clear hc hK hI hv hl
  obtain ⟨d0, d1, hsz, hb⟩ := two_boxes w (bxA b A c A' c') zeroBox 28 28
  have HC0 : Hid (∀ j, j < 11 → ((w.alloc (.cells (bxA b A c A' c') 28)).alloc (.cells zeroBox 28)).cell? ⟨w.heap.size, 0 + j, none⟩ = (bxA b A c A' c')[j]?) := fun j _ => by
    rw [Nat.zero_add]; exact cell_of_row _ _ _ _ _ _ d0
  have HD := Lib.hid (And.intro d0 (And.intro d1 (And.intro hsz hb)))
  clear d0 d1 hsz hb
  go_enter Try.func24, Try.ntmps24
  go_wp2_with ((with_reducible refine at_load 28 ?_); go_loud (refine wpList_load_all i1 11 hi1 hy1 _ Try.underlying28 rfl rfl HC0.out ?_))
  refine (rValid_any b A c A' c' ((w.alloc (.cells (bxA b A c A' c') 28)).alloc (.cells zeroBox 28)) HL.out (by have := HCN.out; omega) HV.out (HK.out.1.next HD.out.2.2.2) (HK.out.2.next HD.out.2.2.2)).mono ?_
  rintro e w1 ⟨rfl, hb1⟩
  have hss := HD.out.2.2.1
  have HZ : Hid (w1.heap[w.heap.size + 1]? = some (.cells zeroBox 28 (0, 0))) := (hb1.block _ (by omega)).trans HD.out.2.1
  have HX : Hid (w1.heap[w.heap.size]? = some (.cells (bxA b A c A' c') 28 (0, 0))) := (hb1.block _ (by omega)).trans HD.out.1
  have HB1 : Hid (Below w.heap.size w w1) := below_next HD.out.2.2.2 hb1
  clear hb1 hss
  cases v with
  | false =>
    go_wp2_with ((with_reducible refine at_store 28 ?_); go_loud (refine wpList_store_all i1 11 hi1 hy1 rfl rfl rfl HZ.out (by decide) (bxA_one zeroBx none 0 none 0) ?_); rw [row_all _ _ rfl rfl])
    refine bodyPost_ret (results_cell_tmp rfl _ i1 11 hi1 hy1 _ Try.underlying28 rfl rfl (fun j _ => by rw [Nat.zero_add]; exact cell_setRow_same _ _ _ _ _ _ _ HZ.out)) rfl ?_
    exact PPost.zero (al_1 fun h => by have := HV.out.2 h; simp at this) (below_setRow HB1.out (by omega) _)
  | true =>
    have HVB : Hid (validB b) := HV.out.1 rfl
    clear HV
    obtain ⟨ww, hww⟩ : ∃ ww, b.w = ww := ⟨_, rfl⟩
    have hwr := ((properB_eq _).1 HVB.out.1).1.1 0 (by omega)
    have hwr2 : rngL b.w := hwr
    rw [hww] at hwr2
    have x3 : w1.cell? ⟨w.heap.size, 3, none⟩ = some (.int .i64 ww) := by rw [← hww]; exact blk_cell HX.out 3 _ rfl
    obtain ⟨rr, hrr⟩ : ∃ rr, IntKind.i64.wrap (wd - ww) = rr := ⟨_, rfl⟩
    obtain ⟨v1, hv1⟩ := bool_of (rngL wd)
    obtain ⟨v2, hv2⟩ := bool_of (rngL rr)
    have HV1 := Lib.hid hv1
    have HV2 := Lib.hid hv2
    have HWW := Lib.hid hww
    have HWR := Lib.hid hwr2
    have HRR := Lib.hid hrr
    clear hv1 hv2 hwr hwr2 hww
    have sr : IntKind.i64.wrap (wd - ww) = rr := hrr
    clear hrr
    go_wp2_with fail
    refine (rlvalid_any wd w1 HV1.out).mono ?_
    rintro e w2 ⟨rfl, hw2⟩
    subst hw2
    cases v1 with
    | false =>
      go_wp2_with ((with_reducible refine at_store 28 ?_); go_loud (refine wpList_store_all i1 11 hi1 hy1 rfl rfl rfl HZ.out (by decide) (bxA_one zeroBx none 0 none 0) ?_); rw [row_all _ _ rfl rfl])
      refine bodyPost_ret (results_cell_tmp rfl _ i1 11 hi1 hy1 _ Try.underlying28 rfl rfl (fun j _ => by rw [Nat.zero_add]; exact cell_setRow_same _ _ _ _ _ _ _ HZ.out)) rfl ?_
      exact PPost.zero (al_2 HVB.out fun h => by have h2 := HV1.out.2 h.1; simp at h2) (below_setRow HB1.out (by omega) _)
    | true =>
      have HW : Hid (rngL wd) := HV1.out.1 rfl
      have HRE : Hid (rr = wd - b.w) := by
        have h1 := HW.out
        have h2 := HWR.out
        have h3 := HRR.out
        unfold rngL at h1 h2
        show rr = wd - b.w
        rw [HWW.out, ← h3]
        exact IntWalk.i64_in _ (by omega)
      clear HV1
      go_wp2_with fail
      refine (rlvalid_any rr w2 HV2.out).mono ?_
      rintro e w3 ⟨rfl, hw3⟩
      subst hw3
      cases v2 with
      | false =>
        go_wp2_with ((with_reducible refine at_store 28 ?_); go_loud (refine wpList_store_all i1 11 hi1 hy1 rfl rfl rfl HZ.out (by decide) (bxA_one zeroBx none 0 none 0) ?_); rw [row_all _ _ rfl rfl])
        refine bodyPost_ret (results_cell_tmp rfl _ i1 11 hi1 hy1 _ Try.underlying28 rfl rfl (fun j _ => by rw [Nat.zero_add]; exact cell_setRow_same _ _ _ _ _ _ _ HZ.out)) rfl ?_
        exact PPost.zero (al_2 HVB.out fun h => by have h2 := HV2.out.2 (by rw [HRE.out]; exact h.2.1); simp at h2) (below_setRow HB1.out (by omega) _)
      | true =>
        have HR2 : Hid (rngL (wd - b.w)) := by rw [← HRE.out]; exact HV2.out.1 rfl
        have HRR2 : Hid (rngL rr) := HV2.out.1 rfl
        clear HV2
        by_cases hm0 : 0 ≤ md
        case neg =>
          have HM := Lib.hid hm0
          have q1 : md < 0 := by omega
          clear hm0
          go_wp2_with ((with_reducible refine at_store 28 ?_); go_loud (refine wpList_store_all i1 11 hi1 hy1 rfl rfl rfl HZ.out (by decide) (bxA_one zeroBx none 0 none 0) ?_); rw [row_all _ _ rfl rfl])
          refine bodyPost_ret (results_cell_tmp rfl _ i1 11 hi1 hy1 _ Try.underlying28 rfl rfl (fun j _ => by rw [Nat.zero_add]; exact cell_setRow_same _ _ _ _ _ _ _ HZ.out)) rfl ?_
          exact PPost.zero (al_2 HVB.out fun h => by have h3 := h.2.2.1; have h4 := HM.out; omega) (below_setRow HB1.out (by omega) _)
        by_cases hm2 : md ≤ 2
        case neg =>
          have HM := Lib.hid hm2
          have q1 : ¬ md < 0 := by omega
          have q2 : 2 < md := by omega
          clear hm2
          go_wp2_with ((with_reducible refine at_store 28 ?_); go_loud (refine wpList_store_all i1 11 hi1 hy1 rfl rfl rfl HZ.out (by decide) (bxA_one zeroBx none 0 none 0) ?_); rw [row_all _ _ rfl rfl])
          refine bodyPost_ret (results_cell_tmp rfl _ i1 11 hi1 hy1 _ Try.underlying28 rfl rfl (fun j _ => by rw [Nat.zero_add]; exact cell_setRow_same _ _ _ _ _ _ _ HZ.out)) rfl ?_
          exact PPost.zero (al_2 HVB.out fun h => by have h3 := h.2.2.2; have h4 := HM.out; omega) (below_setRow HB1.out (by omega) _)
        have HOK : Hid (alOk b wd md) := ⟨HW.out, HR2.out, hm0, hm2⟩
        have hpe := al_3 HVB.out HOK.out
        have HPE := Lib.hid hpe
        clear hpe
        rcases mode_of hm0 hm2 with rfl | rfl | rfl
        · obtain ⟨hx, hhx⟩ : ∃ hx, halfI rr = hx := ⟨_, rfl⟩
          have HHX := Lib.hid hhx
          have HHF : Hid (∀ W : World, Calls Try.prog 23 #[.int .i64 rr] W fun e w' => e = .returned (.int .i64 hx) ∧ w' = W) := fun W => by
            rw [← HHX.out]
            exact rhalf_any rr W HRR2.out
          clear hhx
          go_wp2_with fail
          go_region_with (go_at_call 23; refine (HHF.out _).mono ?_; rintro e w' ⟨rfl, rfl⟩)
          all_goals
            have HBZ : Hid (Below w.heap.size w ((w3.alloc (.cells #[.int .i64 0, .int .i64 hx, .int .i64 rr] 3)).drew)) := (HB1.out.alloc HB1.out.size _).drew
            have HZZ : Hid (((w3.alloc (.cells #[.int .i64 0, .int .i64 hx, .int .i64 rr] 3)).drew).heap[w.heap.size + 1]? = some (.cells zeroBox 28 (0, 0))) := blk_more HZ.out _
            have HXZ : Hid (((w3.alloc (.cells #[.int .i64 0, .int .i64 hx, .int .i64 rr] 3)).drew).heap[w.heap.size]? = some (.cells (bxA b A c A' c') 28 (0, 0))) := blk_more HX.out _
            generalize (w3.alloc (.cells #[.int .i64 0, .int .i64 hx, .int .i64 rr] 3)).drew = wz at HBZ HZZ HXZ ⊢
            have HCZ : Hid (∀ j, j < 11 → wz.cell? ⟨w.heap.size, 0 + j, none⟩ = (bxA b A c A' c')[j]?) := fun j _ => by rw [Nat.zero_add]; exact cell_of_row _ _ _ _ _ _ HXZ.out
            go_wp2_with ((with_reducible refine at_load 28 ?_); go_loud (refine wpList_load_all i1 11 hi1 hy1 _ Try.underlying28 rfl rfl HCZ.out ?_))
            have hone := one_row (w := wz) (b := b) (A := A) (c := c) (A' := A') (c' := c') (0) HL.out (HK.out.1.next HBZ.out) (HK.out.2.next HBZ.out)
            have hbz := below_next HBZ.out (two_below wz (.cells (bxA b A c A' c') 28) (.cells #[.int .i64 0] 3))
            have hput := put_congr (l := [b]) (P := (plX [b] (lAt [0]))) (P' := fun _ => alX b wd 0) wd fun i hi => by
              obtain rfl : i = 0 := by simp at hi; omega
              show IntKind.i64.wrap (0 + 0) = 0; decide
            change Calls Try.prog _ #[.slice (some ⟨wz.heap.size, 0, none⟩) [b].length 1, .slice (some ⟨wz.heap.size + 1, 0, none⟩) [b].length 1, .int .i64 wd] ((wz.alloc (.cells (bxA b A c A' c') 28)).alloc (.cells #[.int .i64 0] 3)) _
            have hrin := one_rowIn (A := A) (c := c) (A' := A') (c' := c') (0) HL.out HK.out.1 HK.out.2 HBZ.out
            refine (rplace_any w.heap.size (some ⟨wz.heap.size, 0, none⟩) [b] 1 (some ⟨wz.heap.size + 1, 0, none⟩) [0] 1 1 wd ((wz.alloc (.cells (bxA b A c A' c') 28)).alloc (.cells #[.int .i64 0] 3)) (by rw [one_cnt]; exact HCN.out) (one_all HVB.out) rfl (Nat.le_refl _) (by unfold lenMax; omega) (by have := hbz.size; omega) hrin hone.2).mono ?_
            rintro e w5 hp5
            rw [hput.1, hput.2, ← HPE.out.1, ← HPE.out.2] at hp5
            have hzl := (Array.getElem?_eq_some_iff.1 HZZ.out).1
            obtain ⟨A2, c2, rfl, hz5, hp6⟩ := PPost.up (w := w) (z := w.heap.size + 1) hp5 (by omega) (by simp; omega) rfl (below_next hbz hp5.2) ((hp5.2.block _ (by simp; omega)).trans (blk_more (blk_more HZZ.out _) _))
            have HP6 := Lib.hid hp6
            have HZ5 := Lib.hid hz5
            clear hp5 hp6 hz5 hone hbz hput
            go_wp2_with ((with_reducible refine at_store 28 ?_); go_loud (refine wpList_store_all i1 11 hi1 hy1 rfl rfl rfl HZ5.out (by decide) (bxA_one (alR b wd 0) A2 c2 none 0) ?_); rw [row_all _ _ rfl rfl])
            refine bodyPost_ret (results_cell_tmp rfl _ i1 11 hi1 hy1 _ Try.underlying28 rfl rfl (fun j _ => by rw [Nat.zero_add]; exact cell_setRow_same _ _ _ _ _ _ _ HZ5.out)) rfl ?_
            exact HP6.out
        · obtain ⟨hx, hhx⟩ : ∃ hx, halfI rr = hx := ⟨_, rfl⟩
          have HHX := Lib.hid hhx
          have HHF : Hid (∀ W : World, Calls Try.prog 23 #[.int .i64 rr] W fun e w' => e = .returned (.int .i64 hx) ∧ w' = W) := fun W => by
            rw [← HHX.out]
            exact rhalf_any rr W HRR2.out
          clear hhx
          go_wp2_with fail
          go_region_with (go_at_call 23; refine (HHF.out _).mono ?_; rintro e w' ⟨rfl, rfl⟩)
          all_goals
            have HBZ : Hid (Below w.heap.size w ((w3.alloc (.cells #[.int .i64 0, .int .i64 hx, .int .i64 rr] 3)).drew)) := (HB1.out.alloc HB1.out.size _).drew
            have HZZ : Hid (((w3.alloc (.cells #[.int .i64 0, .int .i64 hx, .int .i64 rr] 3)).drew).heap[w.heap.size + 1]? = some (.cells zeroBox 28 (0, 0))) := blk_more HZ.out _
            have HXZ : Hid (((w3.alloc (.cells #[.int .i64 0, .int .i64 hx, .int .i64 rr] 3)).drew).heap[w.heap.size]? = some (.cells (bxA b A c A' c') 28 (0, 0))) := blk_more HX.out _
            generalize (w3.alloc (.cells #[.int .i64 0, .int .i64 hx, .int .i64 rr] 3)).drew = wz at HBZ HZZ HXZ ⊢
            have HCZ : Hid (∀ j, j < 11 → wz.cell? ⟨w.heap.size, 0 + j, none⟩ = (bxA b A c A' c')[j]?) := fun j _ => by rw [Nat.zero_add]; exact cell_of_row _ _ _ _ _ _ HXZ.out
            go_wp2_with ((with_reducible refine at_load 28 ?_); go_loud (refine wpList_load_all i1 11 hi1 hy1 _ Try.underlying28 rfl rfl HCZ.out ?_))
            have hone := one_row (w := wz) (b := b) (A := A) (c := c) (A' := A') (c' := c') (hx) HL.out (HK.out.1.next HBZ.out) (HK.out.2.next HBZ.out)
            have hbz := below_next HBZ.out (two_below wz (.cells (bxA b A c A' c') 28) (.cells #[.int .i64 hx] 3))
            have hput := put_congr (l := [b]) (P := (plX [b] (lAt [hx]))) (P' := fun _ => alX b wd 1) wd fun i hi => by
              obtain rfl : i = 0 := by simp at hi; omega
              show IntKind.i64.wrap (0 + hx) = halfI (wd - b.w); rw [← HHX.out, HRE.out]; have := halfI_bounds HR2.out; exact (IntWalk.i64_in _ (by omega)).trans (by omega)
            change Calls Try.prog _ #[.slice (some ⟨wz.heap.size, 0, none⟩) [b].length 1, .slice (some ⟨wz.heap.size + 1, 0, none⟩) [b].length 1, .int .i64 wd] ((wz.alloc (.cells (bxA b A c A' c') 28)).alloc (.cells #[.int .i64 hx] 3)) _
            have hrin := one_rowIn (A := A) (c := c) (A' := A') (c' := c') (hx) HL.out HK.out.1 HK.out.2 HBZ.out
            refine (rplace_any w.heap.size (some ⟨wz.heap.size, 0, none⟩) [b] 1 (some ⟨wz.heap.size + 1, 0, none⟩) [hx] 1 1 wd ((wz.alloc (.cells (bxA b A c A' c') 28)).alloc (.cells #[.int .i64 hx] 3)) (by rw [one_cnt]; exact HCN.out) (one_all HVB.out) rfl (Nat.le_refl _) (by unfold lenMax; omega) (by have := hbz.size; omega) hrin hone.2).mono ?_
            rintro e w5 hp5
            rw [hput.1, hput.2, ← HPE.out.1, ← HPE.out.2] at hp5
            have hzl := (Array.getElem?_eq_some_iff.1 HZZ.out).1
            obtain ⟨A2, c2, rfl, hz5, hp6⟩ := PPost.up (w := w) (z := w.heap.size + 1) hp5 (by omega) (by simp; omega) rfl (below_next hbz hp5.2) ((hp5.2.block _ (by simp; omega)).trans (blk_more (blk_more HZZ.out _) _))
            have HP6 := Lib.hid hp6
            have HZ5 := Lib.hid hz5
            clear hp5 hp6 hz5 hone hbz hput
            go_wp2_with ((with_reducible refine at_store 28 ?_); go_loud (refine wpList_store_all i1 11 hi1 hy1 rfl rfl rfl HZ5.out (by decide) (bxA_one (alR b wd 1) A2 c2 none 0) ?_); rw [row_all _ _ rfl rfl])
            refine bodyPost_ret (results_cell_tmp rfl _ i1 11 hi1 hy1 _ Try.underlying28 rfl rfl (fun j _ => by rw [Nat.zero_add]; exact cell_setRow_same _ _ _ _ _ _ _ HZ5.out)) rfl ?_
            exact HP6.out
        · obtain ⟨hx, hhx⟩ : ∃ hx, halfI rr = hx := ⟨_, rfl⟩
          have HHX := Lib.hid hhx
          have HHF : Hid (∀ W : World, Calls Try.prog 23 #[.int .i64 rr] W fun e w' => e = .returned (.int .i64 hx) ∧ w' = W) := fun W => by
            rw [← HHX.out]
            exact rhalf_any rr W HRR2.out
          clear hhx
          go_wp2_with fail
          go_region_with (go_at_call 23; refine (HHF.out _).mono ?_; rintro e w' ⟨rfl, rfl⟩)
          all_goals
            have HBZ : Hid (Below w.heap.size w ((w3.alloc (.cells #[.int .i64 0, .int .i64 hx, .int .i64 rr] 3)).drew)) := (HB1.out.alloc HB1.out.size _).drew
            have HZZ : Hid (((w3.alloc (.cells #[.int .i64 0, .int .i64 hx, .int .i64 rr] 3)).drew).heap[w.heap.size + 1]? = some (.cells zeroBox 28 (0, 0))) := blk_more HZ.out _
            have HXZ : Hid (((w3.alloc (.cells #[.int .i64 0, .int .i64 hx, .int .i64 rr] 3)).drew).heap[w.heap.size]? = some (.cells (bxA b A c A' c') 28 (0, 0))) := blk_more HX.out _
            generalize (w3.alloc (.cells #[.int .i64 0, .int .i64 hx, .int .i64 rr] 3)).drew = wz at HBZ HZZ HXZ ⊢
            have HCZ : Hid (∀ j, j < 11 → wz.cell? ⟨w.heap.size, 0 + j, none⟩ = (bxA b A c A' c')[j]?) := fun j _ => by rw [Nat.zero_add]; exact cell_of_row _ _ _ _ _ _ HXZ.out
            go_wp2_with ((with_reducible refine at_load 28 ?_); go_loud (refine wpList_load_all i1 11 hi1 hy1 _ Try.underlying28 rfl rfl HCZ.out ?_))
            have hone := one_row (w := wz) (b := b) (A := A) (c := c) (A' := A') (c' := c') (rr) HL.out (HK.out.1.next HBZ.out) (HK.out.2.next HBZ.out)
            have hbz := below_next HBZ.out (two_below wz (.cells (bxA b A c A' c') 28) (.cells #[.int .i64 rr] 3))
            have hput := put_congr (l := [b]) (P := (plX [b] (lAt [rr]))) (P' := fun _ => alX b wd 2) wd fun i hi => by
              obtain rfl : i = 0 := by simp at hi; omega
              show IntKind.i64.wrap (0 + rr) = wd - b.w; rw [HRE.out]; have := HR2.out; unfold rngL at this; exact (IntWalk.i64_in _ (by omega)).trans (by omega)
            change Calls Try.prog _ #[.slice (some ⟨wz.heap.size, 0, none⟩) [b].length 1, .slice (some ⟨wz.heap.size + 1, 0, none⟩) [b].length 1, .int .i64 wd] ((wz.alloc (.cells (bxA b A c A' c') 28)).alloc (.cells #[.int .i64 rr] 3)) _
            have hrin := one_rowIn (A := A) (c := c) (A' := A') (c' := c') (rr) HL.out HK.out.1 HK.out.2 HBZ.out
            refine (rplace_any w.heap.size (some ⟨wz.heap.size, 0, none⟩) [b] 1 (some ⟨wz.heap.size + 1, 0, none⟩) [rr] 1 1 wd ((wz.alloc (.cells (bxA b A c A' c') 28)).alloc (.cells #[.int .i64 rr] 3)) (by rw [one_cnt]; exact HCN.out) (one_all HVB.out) rfl (Nat.le_refl _) (by unfold lenMax; omega) (by have := hbz.size; omega) hrin hone.2).mono ?_
            rintro e w5 hp5
            rw [hput.1, hput.2, ← HPE.out.1, ← HPE.out.2] at hp5
            have hzl := (Array.getElem?_eq_some_iff.1 HZZ.out).1
            obtain ⟨A2, c2, rfl, hz5, hp6⟩ := PPost.up (w := w) (z := w.heap.size + 1) hp5 (by omega) (by simp; omega) rfl (below_next hbz hp5.2) ((hp5.2.block _ (by simp; omega)).trans (blk_more (blk_more HZZ.out _) _))
            have HP6 := Lib.hid hp6
            have HZ5 := Lib.hid hz5
            clear hp5 hp6 hz5 hone hbz hput
            go_wp2_with ((with_reducible refine at_store 28 ?_); go_loud (refine wpList_store_all i1 11 hi1 hy1 rfl rfl rfl HZ5.out (by decide) (bxA_one (alR b wd 2) A2 c2 none 0) ?_); rw [row_all _ _ rfl rfl])
            refine bodyPost_ret (results_cell_tmp rfl _ i1 11 hi1 hy1 _ Try.underlying28 rfl rfl (fun j _ => by rw [Nat.zero_add]; exact cell_setRow_same _ _ _ _ _ _ _ HZ5.out)) rfl ?_
            exact HP6.out

end Go.Proofs.Ytjckbdbjcgjcaaa
