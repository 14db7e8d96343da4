/- The law on Align and Shift: the walk. Printed by gen_lawalign.py. -/
import Derived.Test.YtjckbdbjcgjcaaaLawRow
import Derived.Deep.RegionHeld3
namespace Go.Proofs.Ytjckbdbjcgjcaaa
open Go.RowKit
attribute [local go_sem] Oper.semAt_some
theorem alR_lens {b : Bx} {wd md : Int} (hc : cntB b ≤ 1000) : lens (alR b wd md) ∧ cntB (alR b wd md) ≤ 1001 ∧ (alR b wd md).src = [] := by
  have hz : lens zeroBx ∧ cntB zeroBx ≤ 1001 ∧ zeroBx.src = [] := ⟨zeroBx_lens.1, zeroBx_lens.2, rfl⟩
  by_cases h1 : validB b
  case neg => rw [(al_1 h1).2]; exact hz
  by_cases h2 : alOk b wd md
  case neg => rw [(al_2 h1 h2).2]; exact hz
  rw [(al_3 h1 h2).2]
  exact putR_lens (by simp) (by rw [one_cnt]; exact hc)
set_option maxRecDepth 100000 in
set_option maxHeartbeats 4000000 in
theorem hpackAlign_walk (b : Bx) (A : Option Addr) (c : Nat) (A' : Option Addr) (c' : Nat) (wd md : Int) (w : World) (hl : lens b) (hf : fitB b) (hK : Kids w 0 w.heap.size A b.kids) (hI : Ints w 0 w.heap.size A' b.src) :
    Calls Try.prog 9 #[.agg (bxA b A c A' c'), .agg #[.int .i64 wd, .int .i64 md]] w fun e w' => e = .returned (.bool true) ∧ Below w.heap.size w w' := by
  obtain ⟨i1, hi1, hy0, hy1, hy2⟩ := info_parts infoBox
  have HK := Lib.hid (And.intro hK hI)
  have HL := Lib.hid (And.intro hl hf)
  clear hK hI hl hf
  obtain ⟨d0, d1, hsz, hb⟩ := two_boxes w (bxA b A c A' c') #[.int .i64 wd, .int .i64 md] 28 51
  have HD := Lib.hid (And.intro d0 (And.intro d1 (And.intro hsz hb)))
  clear d0 d1 hsz hb
  go_enter Try.func9, Try.ntmps9
  go_wp2_with fail
  refine (hawake_any ((w.alloc (.cells (bxA b A c A' c') 28)).alloc (.cells #[.int .i64 wd, .int .i64 md] 51))).mono ?_
  rintro e w1 ⟨rfl, hb1⟩
  have hss := HD.out.2.2.1
  have HB1 : Hid (Below w.heap.size w w1) := below_next HD.out.2.2.2 hb1
  have HD1 : Hid (w1.heap[w.heap.size]? = some (.cells (bxA b A c A' c') 28 (0, 0)) ∧ w1.heap[w.heap.size + 1]? = some (.cells #[.int .i64 wd, .int .i64 md] 51 (0, 0))) := ⟨(hb1.block _ (by omega)).trans HD.out.1, (hb1.block _ (by omega)).trans HD.out.2.1⟩
  have HC1 : Hid (∀ j, j < 11 → w1.cell? ⟨w.heap.size, 0 + j, none⟩ = (bxA b A c A' c')[j]?) := fun j _ => by
    rw [Nat.zero_add]; exact cell_of_row _ _ _ _ _ _ HD1.out.1
  clear hb1 HD hss
  obtain ⟨r, hr⟩ : ∃ r, decide (cntB b ≤ 400) = r := ⟨_, rfl⟩
  have HR := Lib.hid hr
  clear hr
  go_wp2_with ((with_reducible refine at_load 28 ?_); go_loud (refine wpList_load_all i1 11 hi1 hy1 _ Try.underlying28 rfl rfl HC1.out ?_))
  refine (rfew_any b 400 A c A' c' w1 (by omega) HR.out (HK.out.1.next HB1.out)).mono ?_
  rintro e w2 ⟨rfl, hb2⟩
  have HB2 := Lib.hid (below_next HB1.out hb2)
  have HD2 : Hid (w2.heap[w.heap.size]? = some (.cells (bxA b A c A' c') 28 (0, 0)) ∧ w2.heap[w.heap.size + 1]? = some (.cells #[.int .i64 wd, .int .i64 md] 51 (0, 0))) := ⟨(hb2.block _ (Array.getElem?_eq_some_iff.1 HD1.out.1).1).trans HD1.out.1, (hb2.block _ (Array.getElem?_eq_some_iff.1 HD1.out.2).1).trans HD1.out.2⟩
  clear hb2 HC1
  cases r with
  | false =>
    go_wp2
    go_ret
    exact ⟨rfl, HB2.out⟩
  | true =>
    have HCN : Hid (cntB b ≤ 400) := Lib.hid (of_decide_eq_true HR.out)
    clear HR
    have HC2 : Hid (∀ j, j < 11 → w2.cell? ⟨w.heap.size, 0 + j, none⟩ = (bxA b A c A' c')[j]?) := fun j _ => by
      rw [Nat.zero_add]; exact cell_of_row _ _ _ _ _ _ HD2.out.1
    have e0 : w2.cell? ⟨w.heap.size + 1, 0, none⟩ = some (.int .i64 wd) := blk_cell HD2.out.2 0 _ rfl
    have e1 : w2.cell? ⟨w.heap.size + 1, 1, none⟩ = some (.int .i64 md) := blk_cell HD2.out.2 1 _ rfl
    have HLE : Hid (lens (alR b wd md) ∧ cntB (alR b wd md) ≤ 1001 ∧ (alR b wd md).src = []) := alR_lens (by have := HCN.out; omega)
    have HCA : Hid (∀ W, Below w.heap.size w W → Calls Try.prog 22 #[.agg (bxA b A c A' c'), .int .i64 wd, .int .i64 md] W (PPost W.heap.size (alR b wd md) (alE b wd md) W)) := fun W hW => halign_any b A c A' c' wd md W HL.out.1 (by have := HCN.out; omega) (HK.out.1.next hW) (HK.out.2.next hW)
    have HCR : Hid (∀ W, Below w.heap.size w W → Calls Try.prog 24 #[.agg (bxA b A c A' c'), .int .i64 wd, .int .i64 md] W (PPost W.heap.size (alR b wd md) (alE b wd md) W)) := fun W hW => ralign_any b A c A' c' wd md W HL.out.1 (by have := HCN.out; omega) (HK.out.1.next hW) (HK.out.2.next hW)
    generalize alR b wd md = R at HLE HCA HCR
    generalize alE b wd md = E at HCA HCR
    go_wp2_with ((with_reducible refine at_load 28 ?_); go_loud (refine wpList_load_all i1 11 hi1 hy1 _ Try.underlying28 rfl rfl HC2.out ?_))
    refine (HCA.out w2 HB2.out).mono ?_
    rintro e w3 hp3
    obtain ⟨A3, c3, rfl, hk3, hb3⟩ := hp3.now
    have HB3 := Lib.hid (below_next HB2.out hb3)
    have HK3 := Lib.hid hk3
    have HB4 : Hid (Below w3.heap.size w3 (w3.alloc (.cells (bxA R A3 c3 none 0) 28))) := one_below _ _
    have HD4 := Lib.hid (blk_new w3 (.cells (bxA R A3 c3 none 0) 28))
    have HE4 : Hid ((w3.alloc (.cells (bxA R A3 c3 none 0) 28)).heap[w.heap.size]? = some (.cells (bxA b A c A' c') 28 (0, 0)) ∧ (w3.alloc (.cells (bxA R A3 c3 none 0) 28)).heap[w.heap.size + 1]? = some (.cells #[.int .i64 wd, .int .i64 md] 51 (0, 0))) := ⟨blk_more ((hb3.block _ (Array.getElem?_eq_some_iff.1 HD2.out.1).1).trans HD2.out.1) _, blk_more ((hb3.block _ (Array.getElem?_eq_some_iff.1 HD2.out.2).1).trans HD2.out.2) _⟩
    have HC4 : Hid (∀ j, j < 11 → (w3.alloc (.cells (bxA R A3 c3 none 0) 28)).cell? ⟨w.heap.size, 0 + j, none⟩ = (bxA b A c A' c')[j]?) := fun j _ => by
      rw [Nat.zero_add]; exact cell_of_row _ _ _ _ _ _ HE4.out.1
    have f0 : (w3.alloc (.cells (bxA R A3 c3 none 0) 28)).cell? ⟨w.heap.size + 1, 0, none⟩ = some (.int .i64 wd) := blk_cell HE4.out.2 0 _ rfl
    have f1 : (w3.alloc (.cells (bxA R A3 c3 none 0) 28)).cell? ⟨w.heap.size + 1, 1, none⟩ = some (.int .i64 md) := blk_cell HE4.out.2 1 _ rfl
    clear hb3 hk3 hp3 HC2 e0 e1
    go_wp2_with ((with_reducible refine at_load 28 ?_); go_loud (refine wpList_load_all i1 11 hi1 hy1 _ Try.underlying28 rfl rfl HC4.out ?_))
    refine (HCR.out (w3.alloc (.cells (bxA R A3 c3 none 0) 28)) (below_next HB3.out HB4.out)).mono ?_
    rintro e w5 hp5
    obtain ⟨A5, c5, rfl, hk5, hb5⟩ := hp5.now
    have HB5 : Hid (Below w3.heap.size w3 w5) := below_next HB4.out hb5
    have HK5 := Lib.hid hk5
    have HD5 : Hid (w5.heap[w3.heap.size]? = some (.cells (bxA R A3 c3 none 0) 28 (0, 0))) := (hb5.block _ (by simp)).trans HD4.out
    have HE5 : Hid (w5.heap[w.heap.size]? = some (.cells (bxA b A c A' c') 28 (0, 0)) ∧ w5.heap[w.heap.size + 1]? = some (.cells #[.int .i64 wd, .int .i64 md] 51 (0, 0))) := ⟨(hb5.block _ (Array.getElem?_eq_some_iff.1 HE4.out.1).1).trans HE4.out.1, (hb5.block _ (Array.getElem?_eq_some_iff.1 HE4.out.2).1).trans HE4.out.2⟩
    clear hb5 hk5 hp5 HC4 f0 f1
    go_wp2_with fail
    have HB6 : Hid (Below w5.heap.size w5 (w5.alloc (.cells (bxA R A5 c5 none 0) 28))) := one_below _ _
    have HX1 : Hid ((w5.alloc (.cells (bxA R A5 c5 none 0) 28)).heap[w.heap.size]? = some (.cells (bxA b A c A' c') 28 (0, 0)) ∧ (w5.alloc (.cells (bxA R A5 c5 none 0) 28)).heap[w.heap.size + 1]? = some (.cells #[.int .i64 wd, .int .i64 md] 51 (0, 0))) := ⟨blk_more HE5.out.1 _, blk_more HE5.out.2 _⟩
    have HX2 : Hid ((w5.alloc (.cells (bxA R A5 c5 none 0) 28)).heap[w3.heap.size]? = some (.cells (bxA R A3 c3 none 0) 28 (0, 0))) := blk_more HD5.out _
    have HX3 : Hid ((w5.alloc (.cells (bxA R A5 c5 none 0) 28)).heap[w5.heap.size]? = some (.cells (bxA R A5 c5 none 0) 28 (0, 0))) := blk_new _ _
    change Code.wp _ _ _ _ (w5.alloc (.cells (bxA R A5 c5 none 0) 28))
    have HKK : Hid (∀ W, Below (w5.alloc (.cells (bxA R A5 c5 none 0) 28)).heap.size (w5.alloc (.cells (bxA R A5 c5 none 0) 28)) W → (Kids W 0 W.heap.size A3 R.kids ∧ Kids W 0 W.heap.size A5 R.kids) ∧ Below w.heap.size w W) := fun W hW => by
      have h5 := below_next HB6.out hW
      have h3 := below_next HB5.out h5
      exact ⟨⟨HK3.out.next h3, HK5.out.next h5⟩, below_next HB3.out h3⟩
    generalize (w5.alloc (.cells (bxA R A5 c5 none 0) 28)) = w6 at HX1 HX2 HX3 HKK ⊢
    have HS : Hid (∀ W', Below w6.heap.size w6 W' → (W'.cell? ⟨w.heap.size, 0, none⟩ = some (.int .i64 b.k) ∧ W'.cell? ⟨w.heap.size, 1, none⟩ = some (.string b.nm) ∧ W'.cell? ⟨w.heap.size, 2, none⟩ = some (.int .i64 b.sz) ∧ W'.cell? ⟨w.heap.size, 3, none⟩ = some (.int .i64 b.w) ∧ W'.cell? ⟨w.heap.size, 4, none⟩ = some (.int .i64 b.h) ∧ W'.cell? ⟨w.heap.size, 5, none⟩ = some (.int .i64 b.d) ∧ W'.cell? ⟨w.heap.size, 6, none⟩ = some (.int .i64 b.x) ∧ W'.cell? ⟨w.heap.size, 7, none⟩ = some (.int .i64 b.y) ∧ W'.cell? ⟨w.heap.size, 8, none⟩ = some (.slice A b.kids.length c) ∧ W'.cell? ⟨w.heap.size, 9, none⟩ = some (.int .i64 b.of_) ∧ W'.cell? ⟨w.heap.size, 10, none⟩ = some (.slice A' b.src.length c') ∧ W'.cell? ⟨w3.heap.size, 0, none⟩ = some (.int .i64 R.k) ∧ W'.cell? ⟨w3.heap.size, 1, none⟩ = some (.string R.nm) ∧ W'.cell? ⟨w3.heap.size, 2, none⟩ = some (.int .i64 R.sz) ∧ W'.cell? ⟨w3.heap.size, 3, none⟩ = some (.int .i64 R.w) ∧ W'.cell? ⟨w3.heap.size, 4, none⟩ = some (.int .i64 R.h) ∧ W'.cell? ⟨w3.heap.size, 5, none⟩ = some (.int .i64 R.d) ∧ W'.cell? ⟨w3.heap.size, 6, none⟩ = some (.int .i64 R.x) ∧ W'.cell? ⟨w3.heap.size, 7, none⟩ = some (.int .i64 R.y) ∧ W'.cell? ⟨w3.heap.size, 8, none⟩ = some (.slice A3 R.kids.length c3) ∧ W'.cell? ⟨w3.heap.size, 9, none⟩ = some (.int .i64 R.of_) ∧ W'.cell? ⟨w3.heap.size, 10, none⟩ = some (.slice none R.src.length 0) ∧ W'.cell? ⟨w5.heap.size, 0, none⟩ = some (.int .i64 R.k) ∧ W'.cell? ⟨w5.heap.size, 1, none⟩ = some (.string R.nm) ∧ W'.cell? ⟨w5.heap.size, 2, none⟩ = some (.int .i64 R.sz) ∧ W'.cell? ⟨w5.heap.size, 3, none⟩ = some (.int .i64 R.w) ∧ W'.cell? ⟨w5.heap.size, 4, none⟩ = some (.int .i64 R.h) ∧ W'.cell? ⟨w5.heap.size, 5, none⟩ = some (.int .i64 R.d) ∧ W'.cell? ⟨w5.heap.size, 6, none⟩ = some (.int .i64 R.x) ∧ W'.cell? ⟨w5.heap.size, 7, none⟩ = some (.int .i64 R.y) ∧ W'.cell? ⟨w5.heap.size, 8, none⟩ = some (.slice A5 R.kids.length c5) ∧ W'.cell? ⟨w5.heap.size, 9, none⟩ = some (.int .i64 R.of_) ∧ W'.cell? ⟨w5.heap.size, 10, none⟩ = some (.slice none R.src.length 0) ∧ W'.cell? ⟨w.heap.size + 1, 0, none⟩ = some (.int .i64 wd) ∧ W'.cell? ⟨w.heap.size + 1, 1, none⟩ = some (.int .i64 md))) := fun W' hb => by
      have h1 := (hb.block _ (Array.getElem?_eq_some_iff.1 HX1.out.1).1).trans HX1.out.1
      have h4 := (hb.block _ (Array.getElem?_eq_some_iff.1 HX1.out.2).1).trans HX1.out.2
      have h2 := (hb.block _ (Array.getElem?_eq_some_iff.1 HX2.out).1).trans HX2.out
      have h3 := (hb.block _ (Array.getElem?_eq_some_iff.1 HX3.out).1).trans HX3.out
      exact ⟨blk_cell h1 0 _ rfl, blk_cell h1 1 _ rfl, blk_cell h1 2 _ rfl, blk_cell h1 3 _ rfl, blk_cell h1 4 _ rfl, blk_cell h1 5 _ rfl, blk_cell h1 6 _ rfl, blk_cell h1 7 _ rfl, blk_cell h1 8 _ rfl, blk_cell h1 9 _ rfl, blk_cell h1 10 _ rfl, blk_cell h2 0 _ rfl, blk_cell h2 1 _ rfl, blk_cell h2 2 _ rfl, blk_cell h2 3 _ rfl, blk_cell h2 4 _ rfl, blk_cell h2 5 _ rfl, blk_cell h2 6 _ rfl, blk_cell h2 7 _ rfl, blk_cell h2 8 _ rfl, blk_cell h2 9 _ rfl, blk_cell h2 10 _ rfl, blk_cell h3 0 _ rfl, blk_cell h3 1 _ rfl, blk_cell h3 2 _ rfl, blk_cell h3 3 _ rfl, blk_cell h3 4 _ rfl, blk_cell h3 5 _ rfl, blk_cell h3 6 _ rfl, blk_cell h3 7 _ rfl, blk_cell h3 8 _ rfl, blk_cell h3 9 _ rfl, blk_cell h3 10 _ rfl, blk_cell h4 0 _ rfl, blk_cell h4 1 _ rfl⟩
    have HQT : Hid (∀ (u : Bx), lens u → ∀ A c A' c' B d B' d' W', Kids W' 0 W'.heap.size A u.kids → Ints W' 0 W'.heap.size A' u.src → Kids W' 0 W'.heap.size B u.kids → Ints W' 0 W'.heap.size B' u.src → Calls Try.prog 14 #[.agg (bxA u A c A' c'), .agg (bxA u B d B' d')] W' fun e w' => e = .returned (.bool true) ∧ Below W'.heap.size W' w') := fun u hl A c A' c' B d B' d' W' h1 h2 h3 h4 =>
      requal_any (cntB u) true u u (Nat.le_refl _) hl hl ⟨fun _ => rfl, fun _ => rfl⟩ A c A' c' B d B' d' W' h1 h2 h3 h4
    have HE1 : Hid (∀ W', Below w6.heap.size w6 W' → Calls Try.prog 14 #[.agg (bxA R A3 c3 none 0), .agg (bxA R A5 c5 none 0)] W' fun e w' => e = .returned (.bool true) ∧ Below W'.heap.size W' w') := fun W' hb =>
      HQT.out R HLE.out.1 A3 c3 none 0 A5 c5 none 0 W' (HKK.out W' hb).1.1 (by rw [HLE.out.2.2]; exact fun h => absurd h (by simp)) (HKK.out W' hb).1.2 (by rw [HLE.out.2.2]; exact fun h => absurd h (by simp))
    have HSH : Hid (∀ W', Below w6.heap.size w6 W' → Calls Try.prog 25 #[.agg (bxA b A c A' c'), .int .i64 wd, .int .i64 md] W' (ShPost (shB b wd md) W')) := fun W' hb =>
      hshift_any b A c A' c' wd md W' HL.out.1 HL.out.2 (by have := HCN.out; omega) (HK.out.1.next (HKK.out W' hb).2) (HK.out.2.next (HKK.out W' hb).2)
    have HRS : Hid (∀ W', Below w6.heap.size w6 W' → Calls Try.prog 26 #[.agg (bxA b A c A' c'), .int .i64 wd, .int .i64 md] W' (ShPost (shB b wd md) W')) := fun W' hb =>
      rshift_any b A c A' c' wd md W' (HK.out.1.next (HKK.out W' hb).2) (HK.out.2.next (HKK.out W' hb).2)
    have HLS : Hid (lens (shB b wd md)) := ⟨HL.out.1.1, HL.out.1.2.1, HL.out.1.2.2⟩
    have HE2 : Hid (∀ S1 n1 S2 n2 T1 m1 T2 m2 W', Kids W' 0 W'.heap.size S1 (shB b wd md).kids → Ints W' 0 W'.heap.size S2 (shB b wd md).src → Kids W' 0 W'.heap.size T1 (shB b wd md).kids → Ints W' 0 W'.heap.size T2 (shB b wd md).src → Calls Try.prog 14 #[.agg (bxA (shB b wd md) S1 n1 S2 n2), .agg (bxA (shB b wd md) T1 m1 T2 m2)] W' fun e w' => e = .returned (.bool true) ∧ Below W'.heap.size W' w') := fun S1 n1 S2 n2 T1 m1 T2 m2 W' h1 h2 h3 h4 =>
      HQT.out (shB b wd md) HLS.out S1 n1 S2 n2 T1 m1 T2 m2 W' h1 h2 h3 h4
    unfold ShPost at HSH HRS
    generalize shB b wd md = U at HSH HRS HE2
    have hbd : Below w6.heap.size w6 w6.drew := (Below.refl _ _).drew
    go_region_held3 (fun W => W.cell? ⟨w.heap.size, 0, none⟩ = some (.int .i64 b.k) ∧ W.cell? ⟨w.heap.size, 1, none⟩ = some (.string b.nm) ∧ W.cell? ⟨w.heap.size, 2, none⟩ = some (.int .i64 b.sz) ∧ W.cell? ⟨w.heap.size, 3, none⟩ = some (.int .i64 b.w) ∧ W.cell? ⟨w.heap.size, 4, none⟩ = some (.int .i64 b.h) ∧ W.cell? ⟨w.heap.size, 5, none⟩ = some (.int .i64 b.d) ∧ W.cell? ⟨w.heap.size, 6, none⟩ = some (.int .i64 b.x) ∧ W.cell? ⟨w.heap.size, 7, none⟩ = some (.int .i64 b.y) ∧ W.cell? ⟨w.heap.size, 8, none⟩ = some (.slice A b.kids.length c) ∧ W.cell? ⟨w.heap.size, 9, none⟩ = some (.int .i64 b.of_) ∧ W.cell? ⟨w.heap.size, 10, none⟩ = some (.slice A' b.src.length c') ∧ W.cell? ⟨w3.heap.size, 0, none⟩ = some (.int .i64 R.k) ∧ W.cell? ⟨w3.heap.size, 1, none⟩ = some (.string R.nm) ∧ W.cell? ⟨w3.heap.size, 2, none⟩ = some (.int .i64 R.sz) ∧ W.cell? ⟨w3.heap.size, 3, none⟩ = some (.int .i64 R.w) ∧ W.cell? ⟨w3.heap.size, 4, none⟩ = some (.int .i64 R.h) ∧ W.cell? ⟨w3.heap.size, 5, none⟩ = some (.int .i64 R.d) ∧ W.cell? ⟨w3.heap.size, 6, none⟩ = some (.int .i64 R.x) ∧ W.cell? ⟨w3.heap.size, 7, none⟩ = some (.int .i64 R.y) ∧ W.cell? ⟨w3.heap.size, 8, none⟩ = some (.slice A3 R.kids.length c3) ∧ W.cell? ⟨w3.heap.size, 9, none⟩ = some (.int .i64 R.of_) ∧ W.cell? ⟨w3.heap.size, 10, none⟩ = some (.slice none R.src.length 0) ∧ W.cell? ⟨w5.heap.size, 0, none⟩ = some (.int .i64 R.k) ∧ W.cell? ⟨w5.heap.size, 1, none⟩ = some (.string R.nm) ∧ W.cell? ⟨w5.heap.size, 2, none⟩ = some (.int .i64 R.sz) ∧ W.cell? ⟨w5.heap.size, 3, none⟩ = some (.int .i64 R.w) ∧ W.cell? ⟨w5.heap.size, 4, none⟩ = some (.int .i64 R.h) ∧ W.cell? ⟨w5.heap.size, 5, none⟩ = some (.int .i64 R.d) ∧ W.cell? ⟨w5.heap.size, 6, none⟩ = some (.int .i64 R.x) ∧ W.cell? ⟨w5.heap.size, 7, none⟩ = some (.int .i64 R.y) ∧ W.cell? ⟨w5.heap.size, 8, none⟩ = some (.slice A5 R.kids.length c5) ∧ W.cell? ⟨w5.heap.size, 9, none⟩ = some (.int .i64 R.of_) ∧ W.cell? ⟨w5.heap.size, 10, none⟩ = some (.slice none R.src.length 0) ∧ W.cell? ⟨w.heap.size + 1, 0, none⟩ = some (.int .i64 wd) ∧ W.cell? ⟨w.heap.size + 1, 1, none⟩ = some (.int .i64 md)) (first | exact HS.out _ (by assumption))
      (first
        | (go_at_call 25; refine (HSH.out _ (by assumption)).mono ?_; rintro e wS ⟨⟨S1, n1, S2, n2, rfl, hs1, hs2⟩, hbs⟩; have hbS : Below w6.heap.size w6 wS := below_next (by assumption) hbs)
        | (go_at_call 26; refine (HRS.out _ (by assumption)).mono ?_; rintro e wT ⟨⟨T1, m1, T2, m2, rfl, ht1, ht2⟩, hbt⟩; have hbT : Below w6.heap.size w6 wT := below_next (by assumption) hbt; have hs3 := hs1.next hbt; have hs4 := hs2.next hbt)
        | (go_at_call 14; with_reducible refine (HE1.out _ (by assumption)).mono ?_; rintro e wE ⟨rfl, hbe⟩; have hbE : Below w6.heap.size w6 wE := below_next (by assumption) hbe)
        | (go_at_call 14; with_reducible refine (HE2.out S1 n1 S2 n2 T1 m1 T2 m2 _ hs3 hs4 ht1 ht2).mono ?_; rintro e wF ⟨rfl, hbf⟩; have hbF : Below w6.heap.size w6 wF := below_next (by assumption) hbf))
    have hfin := (HKK.out _ hbF).2
    have HFIN := Lib.hid hfin
    clear hfin
    go_wp2
    go_ret
    exact ⟨rfl, HFIN.out⟩
end Go.Proofs.Ytjckbdbjcgjcaaa
