/- The law on centred boxes: the walk. Printed by gen_lawctr.py. -/
import Derived.Test.YtjckbdbjcgjcaaaHpSmall
import Derived.Test.YtjckbdbjcgjcaaaLawRow
namespace Go.Proofs.Ytjckbdbjcgjcaaa
open Go.RowKit
theorem one_row1 {w : World} {b : Bx} {A : Option Addr} {c : Nat} {A' : Option Addr} {c' : Nat} (hl : lens b) (hK : Kids w 0 w.heap.size A b.kids) (hI : Ints w 0 w.heap.size A' b.src) : Kids (w.alloc (.cells (bxA b A c A' c') 28)) 0 (w.alloc (.cells (bxA b A c A' c') 28)).heap.size (some ⟨w.heap.size, 0, none⟩) [b] := by
  have h0 := blk_new w (.cells (bxA b A c A' c') 28)
  have hb := one_below w (.cells (bxA b A c A' c') 28)
  refine kids_row (Q := [⟨b, A, c, A', c'⟩]) (fun k u hu => ?_) (Nat.zero_le _) (by simp) fun q hq => ?_
  · rw [Nat.zero_add]
    exact blk_cell h0 k u (by rw [rowC_one] at hu; unfold Q5.cells at hu; rw [Array.getElem?_toList] at hu; exact hu)
  · obtain rfl : q = _ := by simpa using hq
    exact ⟨hK.next hb, hI.next hb, hl⟩
theorem al_small {b : Bx} {wd md : Int} (hs : smallB b) (hc : cntB b ≤ 400) (h0 : 0 ≤ wd) (h1 : wd ≤ 65535) (h2 : 0 ≤ md) (h3 : md ≤ 2) : alE b wd md = 0 ∧ alR b wd md = rowB [b] (fun _ => alX b wd md) wd ∧ -1114112 ≤ alX b wd md ∧ alX b wd md ≤ 1114112 := by
  have hd := hs.1
  have hr : rngL (wd - b.w) := by unfold rngL; omega
  have hx : -1114112 ≤ alX b wd md ∧ alX b wd md ≤ 1114112 := by
    unfold alX halfI
    split
    · omega
    · split
      · split <;> omega
      · omega
  have h := al_3 (b := b) (wd := wd) (md := md) hs.2.1 ⟨by unfold rngL; omega, hr, h2, h3⟩
  have hv : validB (rowB [b] (fun _ => alX b wd md) wd) := rowB_valid (fun i hi => (one_all hs.2.1 i hi).1) (fun i _ => by unfold rngL; omega) (by unfold rngL; omega) (by show rngL (max 0 (b.y + b.h)); unfold rngL; omega) (by show rngL (max 0 (b.d - b.y)); unfold rngL; omega) (by rw [one_cnt]; omega) (by rw [nestL_cons, nestL_nil]; have := hs.2.2; omega)
  have hp := put_yes hv
  exact ⟨h.1.trans hp.1, h.2.trans hp.2, hx⟩
theorem half_mid (n : Int) : -1 ≤ 2 * halfI n - n ∧ 2 * halfI n - n ≤ 1 := by
  unfold halfI
  split <;> omega
/-- What the law needs of an answer of Align. -/
theorem al_call {b : Bx} {A : Option Addr} {c : Nat} {A' : Option Addr} {c' : Nat} {wd md : Int} {w : World} (x : Int) (hx : alX b wd md = x) (hs : smallB b) (hc : cntB b ≤ 400) (h0 : 0 ≤ wd) (h1 : wd ≤ 65535) (h2 : 0 ≤ md) (h3 : md ≤ 2) (hl : lens b) (hK : Kids w 0 w.heap.size A b.kids) (hI : Ints w 0 w.heap.size A' b.src) :
    Calls Try.prog 22 #[.agg (bxA b A c A' c'), .int .i64 wd, .int .i64 md] w fun e w' => (∃ R kb ko k2, e = .returned (.tuple #[.agg (bxA R (some ⟨kb, ko, none⟩) k2 none 0), .int .i64 0]) ∧ R.w = wd ∧ R.kids.length = 1 ∧ kb < w'.heap.size ∧ w'.cell? ⟨kb, ko + 6, none⟩ = some (.int .i64 x)) ∧ Below w.heap.size w w' := by
  obtain ⟨e1, e2, _⟩ := al_small hs hc h0 h1 h2 h3
  refine (halign_any b A c A' c' wd md w hl (by omega) hK hI).mono ?_
  intro e w' hp
  obtain ⟨A2, c2, rfl, hk, hb⟩ := hp.now
  rw [e1, e2, hx] at *
  obtain ⟨kb, ko, B1, d1, B2, d2, rfl, _, hkb, hat, -⟩ := hk.at (i := 0) (by show 0 < (movedX [b] _).length; rw [movedX_len]; simp)
  refine ⟨⟨_, kb, ko, c2, rfl, rfl, by show (movedX [b] _).length = 1; rw [movedX_len]; rfl, hkb, ?_⟩, hb⟩
  exact hat 6 (by omega)
set_option maxRecDepth 100000 in
set_option maxHeartbeats 3000000 in
theorem hpackCenters_walk (b : Bx) (A : Option Addr) (c : Nat) (A' : Option Addr) (c' : Nat) (wd : Int) (w : World) (hl : lens b) (hK : Kids w 0 w.heap.size A b.kids) (hI : Ints w 0 w.heap.size A' b.src) (h0 : 0 ≤ wd) (h1 : wd ≤ 65535) :
    Calls Try.prog 8 #[.agg (bxA b A c A' c'), .int .u16 wd] w fun e w' => e = .returned (.bool true) ∧ Below w.heap.size w w' := by
  obtain ⟨i1, hi1, hy0, hy1, hy2⟩ := info_parts infoBox
  have HK := Lib.hid (And.intro hK hI)
  have HL := Lib.hid hl
  clear hK hI hl
  have HB0 : Hid (Below w.heap.size w (w.alloc (.cells (bxA b A c A' c') 28))) := one_below _ _
  have HD0 := Lib.hid (blk_new w (.cells (bxA b A c A' c') 28))
  go_enter Try.func8, Try.ntmps8
  go_wp2_with fail
  refine (hawake_any (w.alloc (.cells (bxA b A c A' c') 28))).mono ?_
  rintro e w1 ⟨rfl, hb1⟩
  have HB1 : Hid (Below w.heap.size w w1) := below_next HB0.out hb1
  have HD1 : Hid (w1.heap[w.heap.size]? = some (.cells (bxA b A c A' c') 28 (0, 0))) := (hb1.block _ (by simp)).trans HD0.out
  have HC1 : Hid (∀ j, j < 11 → w1.cell? ⟨w.heap.size, 0 + j, none⟩ = (bxA b A c A' c')[j]?) := fun j _ => by
    rw [Nat.zero_add]; exact cell_of_row _ _ _ _ _ _ HD1.out
  clear hb1 HB0 HD0
  obtain ⟨r, hr⟩ : ∃ r, decide (cntB b ≤ 400) = r := ⟨_, rfl⟩
  have HR := Lib.hid hr
  clear hr
  go_wp2_with ((with_reducible refine at_load 28 ?_); go_loud (refine wpList_load_all i1 11 hi1 hy1 _ Try.underlying28 rfl rfl HC1.out ?_))
  refine (rfew_any b 400 A c A' c' w1 (by omega) HR.out (HK.out.1.next HB1.out)).mono ?_
  rintro e w2 ⟨rfl, hb2⟩
  have HB2 := Lib.hid (below_next HB1.out hb2)
  have HD2 : Hid (w2.heap[w.heap.size]? = some (.cells (bxA b A c A' c') 28 (0, 0))) := (hb2.block _ (Array.getElem?_eq_some_iff.1 HD1.out).1).trans HD1.out
  clear hb2 HC1
  cases r with
  | false =>
    go_wp2
    go_ret
    exact ⟨rfl, HB2.out⟩
  | true =>
    have HCN : Hid (cntB b ≤ 400) := Lib.hid (of_decide_eq_true HR.out)
    clear HR
    have x0 : w2.cell? ⟨w.heap.size, 0, none⟩ = some (.int .i64 b.k) := blk_cell HD2.out 0 _ rfl
    have x1 : w2.cell? ⟨w.heap.size, 1, none⟩ = some (.string b.nm) := blk_cell HD2.out 1 _ rfl
    have x2 : w2.cell? ⟨w.heap.size, 2, none⟩ = some (.int .i64 b.sz) := blk_cell HD2.out 2 _ rfl
    have x3 : w2.cell? ⟨w.heap.size, 3, none⟩ = some (.int .i64 b.w) := blk_cell HD2.out 3 _ rfl
    have x4 : w2.cell? ⟨w.heap.size, 4, none⟩ = some (.int .i64 b.h) := blk_cell HD2.out 4 _ rfl
    have x5 : w2.cell? ⟨w.heap.size, 5, none⟩ = some (.int .i64 b.d) := blk_cell HD2.out 5 _ rfl
    have x6 : w2.cell? ⟨w.heap.size, 6, none⟩ = some (.int .i64 b.x) := blk_cell HD2.out 6 _ rfl
    have x7 : w2.cell? ⟨w.heap.size, 7, none⟩ = some (.int .i64 b.y) := blk_cell HD2.out 7 _ rfl
    have x8 : w2.cell? ⟨w.heap.size, 8, none⟩ = some (.slice A b.kids.length c) := blk_cell HD2.out 8 _ rfl
    have x9 : w2.cell? ⟨w.heap.size, 9, none⟩ = some (.int .i64 b.of_) := blk_cell HD2.out 9 _ rfl
    have x10 : w2.cell? ⟨w.heap.size, 10, none⟩ = some (.slice A' b.src.length c') := blk_cell HD2.out 10 _ rfl
    go_wp2_with fail
    change Calls Try.prog _ #[.slice (some ⟨w2.heap.size, 0, none⟩) [b].length 1] (w2.alloc (.cells (bxA b A c A' c') 28)) _
    clear x0 x1 x2 x3 x4 x5 x6 x7 x8 x9 x10
    obtain ⟨v, hv⟩ := bool_of (smallL [b])
    refine (small_any (some ⟨w2.heap.size, 0, none⟩) [b] 1 (w2.alloc (.cells (bxA b A c A' c') 28)) hv (by rw [one_cnt]; have := HCN.out; omega) (one_row1 HL.out (HK.out.1.next HB2.out) (HK.out.2.next HB2.out))).mono ?_
    rintro e w3 ⟨rfl, hb3⟩
    have HB3 : Hid (Below w.heap.size w w3) := below_next HB2.out (below_next (one_below _ _) hb3)
    have HD3 : Hid (w3.heap[w.heap.size]? = some (.cells (bxA b A c A' c') 28 (0, 0))) := (hb3.block _ (by have := (Array.getElem?_eq_some_iff.1 HD2.out).1; simp; omega)).trans (blk_more HD2.out _)
    have HV := Lib.hid hv
    clear hb3 hv HB2 HD2
    cases v with
    | false =>
      go_wp2
      go_ret
      exact ⟨rfl, HB3.out⟩
    | true =>
      have HS : Hid (smallB b) := HV.out.1 rfl 0 (by simp)
      clear HV
      obtain ⟨ww, hww⟩ : ∃ ww, b.w = ww := ⟨_, rfl⟩
      obtain ⟨r2, hr2⟩ : ∃ r2, wd - ww = r2 := ⟨_, rfl⟩
      obtain ⟨hx, hhx⟩ : ∃ hx, halfI r2 = hx := ⟨_, rfl⟩
      have HA0 : Hid (alX b wd 0 = 0) := rfl
      have HA1 : Hid (alX b wd 1 = hx) := by show halfI (wd - b.w) = hx; rw [hww, hr2, hhx]
      have HA2 : Hid (alX b wd 2 = r2) := by show wd - b.w = r2; rw [hww, hr2]
      have hsd := HS.out.1
      rw [hww] at hsd
      have hhm := half_mid r2
      rw [hhx] at hhm
      have hr2b : -1048576 ≤ r2 ∧ r2 ≤ 1114111 := by omega
      have HRR : Hid (rngL r2) := by show rngL r2; unfold rngL; omega
      have HWW := Lib.hid hww
      have HHX := Lib.hid hhx
      obtain ⟨D, hD⟩ : ∃ D, hx - (wd - hx - ww) = D := ⟨_, rfl⟩
      have q1 : -1 ≤ D := by omega
      have q2 : D ≤ 1 := by omega
      have hhxb : -1114112 ≤ hx ∧ hx ≤ 1114112 := by omega
      have s1 : IntKind.i64.wrap (wd - hx) = wd - hx := IntWalk.i64_in _ (by omega)
      have s2 : IntKind.i64.wrap (wd - hx - ww) = wd - hx - ww := IntWalk.i64_in _ (by omega)
      have s3 : IntKind.i64.wrap (hx - (wd - hx - ww)) = D := by rw [hD]; exact IntWalk.i64_in _ (by omega)
      have s4 : IntKind.i64.wrap (wd - ww) = r2 := by rw [hr2]; exact IntWalk.i64_in _ (by omega)
      have s5 : IntKind.i64.wrap (r2 + ww) = wd := by rw [← hr2]; exact (IntWalk.i64_in _ (by omega)).trans (by omega)
      have s6 : IntKind.i64.wrap wd = wd := IntWalk.i64_in _ (by omega)
      have HAL : Hid (∀ (md x : Int), alX b wd md = x → 0 ≤ md → md ≤ 2 → ∀ W, Below w.heap.size w W → Calls Try.prog 22 #[.agg (bxA b A c A' c'), .int .i64 wd, .int .i64 md] W fun e w' => (∃ R kb ko k2, e = .returned (.tuple #[.agg (bxA R (some ⟨kb, ko, none⟩) k2 none 0), .int .i64 0]) ∧ R.w = wd ∧ R.kids.length = 1 ∧ kb < w'.heap.size ∧ w'.cell? ⟨kb, ko + 6, none⟩ = some (.int .i64 x)) ∧ Below W.heap.size W w') := fun md x hx0 h2 h3 W hW =>
        al_call x hx0 HS.out HCN.out h0 h1 h2 h3 HL.out (HK.out.1.next hW) (HK.out.2.next hW)
      have SS := Lib.hid (And.intro s1 (And.intro s2 (And.intro s3 (And.intro s4 s5))))
      clear hsd hhm hr2b hww hhx hr2 hD hhxb s1 s2 s3 s4 s5
      have HC3 : Hid (∀ j, j < 11 → w3.cell? ⟨w.heap.size, 0 + j, none⟩ = (bxA b A c A' c')[j]?) := fun j _ => by
        rw [Nat.zero_add]; exact cell_of_row _ _ _ _ _ _ HD3.out
      go_wp2_with ((with_reducible refine at_load 28 ?_); go_loud (refine wpList_load_all i1 11 hi1 hy1 _ Try.underlying28 rfl rfl HC3.out ?_))
      refine (HAL.out 0 0 HA0.out (by omega) (by omega) w3 HB3.out).mono ?_
      rintro e v0 ⟨⟨R0, kb0, ko0, k20, rfl, hrw0, hrk0, hkb0, hkc0⟩, hb0⟩
      have HRW0 := Lib.hid (And.intro hrw0 hrk0)
      obtain ⟨u0, hu0⟩ : ∃ u0, v0.alloc (.cells (bxA R0 (some ⟨kb0, ko0, none⟩) k20 none 0) 28) = u0 := ⟨_, rfl⟩
      have HBB0 : Hid (Below w3.heap.size w3 u0) := by rw [← hu0]; exact below_next hb0 (one_below _ _)
      have HBu0 : Hid (Below w.heap.size w u0) := below_next HB3.out HBB0.out
      have HDu0 : Hid (u0.heap[w.heap.size]? = some (.cells (bxA b A c A' c') 28 (0, 0))) := (HBB0.out.block _ (Array.getElem?_eq_some_iff.1 HD3.out).1).trans HD3.out
      have HCu0 : Hid (∀ j, j < 11 → u0.cell? ⟨w.heap.size, 0 + j, none⟩ = (bxA b A c A' c')[j]?) := fun j _ => by
        rw [Nat.zero_add]; exact cell_of_row _ _ _ _ _ _ HDu0.out
      have HN0 : Hid (u0.heap[v0.heap.size]? = some (.cells (bxA R0 (some ⟨kb0, ko0, none⟩) k20 none 0) 28 (0, 0))) := by rw [← hu0]; exact blk_new _ _
      have HQ0 : Hid (u0.cell? ⟨kb0, ko0 + 6, none⟩ = some (.int .i64 0) ∧ kb0 < u0.heap.size) := by rw [← hu0]; exact ⟨((one_below v0 _).cell (p := ⟨kb0, ko0 + 6, none⟩) hkb0).trans hkc0, by simp; omega⟩
      clear hrw0 hrk0 hkb0 hkc0 hb0
      go_wp2_with ((with_reducible refine at_load 28 ?_); go_loud (refine wpList_load_all i1 11 hi1 hy1 _ Try.underlying28 rfl rfl HCu0.out ?_))
      refine (HAL.out 1 hx HA1.out (by omega) (by omega) u0 HBu0.out).mono ?_
      rintro e v1 ⟨⟨R1, kb1, ko1, k21, rfl, hrw1, hrk1, hkb1, hkc1⟩, hb1⟩
      have HRW1 := Lib.hid (And.intro hrw1 hrk1)
      obtain ⟨u1, hu1⟩ : ∃ u1, v1.alloc (.cells (bxA R1 (some ⟨kb1, ko1, none⟩) k21 none 0) 28) = u1 := ⟨_, rfl⟩
      have HBB1 : Hid (Below u0.heap.size u0 u1) := by rw [← hu1]; exact below_next hb1 (one_below _ _)
      have HBu1 : Hid (Below w.heap.size w u1) := below_next HBu0.out HBB1.out
      have HDu1 : Hid (u1.heap[w.heap.size]? = some (.cells (bxA b A c A' c') 28 (0, 0))) := (HBB1.out.block _ (Array.getElem?_eq_some_iff.1 HDu0.out).1).trans HDu0.out
      have HCu1 : Hid (∀ j, j < 11 → u1.cell? ⟨w.heap.size, 0 + j, none⟩ = (bxA b A c A' c')[j]?) := fun j _ => by
        rw [Nat.zero_add]; exact cell_of_row _ _ _ _ _ _ HDu1.out
      have HN1 : Hid (u1.heap[v1.heap.size]? = some (.cells (bxA R1 (some ⟨kb1, ko1, none⟩) k21 none 0) 28 (0, 0))) := by rw [← hu1]; exact blk_new _ _
      have HQ1 : Hid (u1.cell? ⟨kb1, ko1 + 6, none⟩ = some (.int .i64 hx) ∧ kb1 < u1.heap.size) := by rw [← hu1]; exact ⟨((one_below v1 _).cell (p := ⟨kb1, ko1 + 6, none⟩) hkb1).trans hkc1, by simp; omega⟩
      clear hrw1 hrk1 hkb1 hkc1 hb1
      go_wp2_with ((with_reducible refine at_load 28 ?_); go_loud (refine wpList_load_all i1 11 hi1 hy1 _ Try.underlying28 rfl rfl HCu1.out ?_))
      refine (HAL.out 2 r2 HA2.out (by omega) (by omega) u1 HBu1.out).mono ?_
      rintro e v2 ⟨⟨R2, kb2, ko2, k22, rfl, hrw2, hrk2, hkb2, hkc2⟩, hb2⟩
      have HRW2 := Lib.hid (And.intro hrw2 hrk2)
      obtain ⟨u2, hu2⟩ : ∃ u2, v2.alloc (.cells (bxA R2 (some ⟨kb2, ko2, none⟩) k22 none 0) 28) = u2 := ⟨_, rfl⟩
      have HBB2 : Hid (Below u1.heap.size u1 u2) := by rw [← hu2]; exact below_next hb2 (one_below _ _)
      have HBu2 : Hid (Below w.heap.size w u2) := below_next HBu1.out HBB2.out
      have HDu2 : Hid (u2.heap[w.heap.size]? = some (.cells (bxA b A c A' c') 28 (0, 0))) := (HBB2.out.block _ (Array.getElem?_eq_some_iff.1 HDu1.out).1).trans HDu1.out
      have HCu2 : Hid (∀ j, j < 11 → u2.cell? ⟨w.heap.size, 0 + j, none⟩ = (bxA b A c A' c')[j]?) := fun j _ => by
        rw [Nat.zero_add]; exact cell_of_row _ _ _ _ _ _ HDu2.out
      have HN2 : Hid (u2.heap[v2.heap.size]? = some (.cells (bxA R2 (some ⟨kb2, ko2, none⟩) k22 none 0) 28 (0, 0))) := by rw [← hu2]; exact blk_new _ _
      have HQ2 : Hid (u2.cell? ⟨kb2, ko2 + 6, none⟩ = some (.int .i64 r2) ∧ kb2 < u2.heap.size) := by rw [← hu2]; exact ⟨((one_below v2 _).cell (p := ⟨kb2, ko2 + 6, none⟩) hkb2).trans hkc2, by simp; omega⟩
      clear hrw2 hrk2 hkb2 hkc2 hb2
      -- what the last world holds, in every later one
      have HN0' : Hid (u2.heap[v0.heap.size]? = some (.cells (bxA R0 (some ⟨kb0, ko0, none⟩) k20 none 0) 28 (0, 0))) := (HBB2.out.block _ (by have := HBB1.out.size; have := (Array.getElem?_eq_some_iff.1 HN0.out).1; omega)).trans ((HBB1.out.block _ (Array.getElem?_eq_some_iff.1 HN0.out).1).trans HN0.out)
      have HN1' : Hid (u2.heap[v1.heap.size]? = some (.cells (bxA R1 (some ⟨kb1, ko1, none⟩) k21 none 0) 28 (0, 0))) := (HBB2.out.block _ (Array.getElem?_eq_some_iff.1 HN1.out).1).trans HN1.out
      have HQ0' : Hid (u2.cell? ⟨kb0, ko0 + 6, none⟩ = some (.int .i64 0) ∧ kb0 < u2.heap.size) := ⟨(HBB2.out.cell (p := ⟨kb0, ko0 + 6, none⟩) (by have := HBB1.out.size; have := HQ0.out.2; show kb0 < _; omega)).trans ((HBB1.out.cell (p := ⟨kb0, ko0 + 6, none⟩) HQ0.out.2).trans HQ0.out.1), by have := HBB1.out.size; have := HBB2.out.size; have := HQ0.out.2; omega⟩
      have HQ1' : Hid (u2.cell? ⟨kb1, ko1 + 6, none⟩ = some (.int .i64 hx)) := (HBB2.out.cell (p := ⟨kb1, ko1 + 6, none⟩) HQ1.out.2).trans HQ1.out.1
      have HCELL : Hid (∀ v : Bel u2.heap.size u2, v.v.cell? ⟨v0.heap.size, 8, none⟩ = some (.slice (some ⟨kb0, ko0, none⟩) 1 k20) ∧ v.v.cell? ⟨v0.heap.size, 3, none⟩ = some (.int .i64 wd) ∧ v.v.cell? ⟨v1.heap.size, 8, none⟩ = some (.slice (some ⟨kb1, ko1, none⟩) 1 k21) ∧ v.v.cell? ⟨v1.heap.size, 3, none⟩ = some (.int .i64 wd) ∧ v.v.cell? ⟨v2.heap.size, 8, none⟩ = some (.slice (some ⟨kb2, ko2, none⟩) 1 k22) ∧ v.v.cell? ⟨v2.heap.size, 3, none⟩ = some (.int .i64 wd) ∧ v.v.cell? ⟨w.heap.size, 3, none⟩ = some (.int .i64 ww) ∧ v.v.cell? ⟨kb0, ko0 + 6, none⟩ = some (.int .i64 0) ∧ v.v.cell? ⟨kb2, ko2 + 6, none⟩ = some (.int .i64 r2)) := fun v => by
        have g0 := (v.h.block _ (Array.getElem?_eq_some_iff.1 HN0'.out).1).trans HN0'.out
        have g1 := (v.h.block _ (Array.getElem?_eq_some_iff.1 HN1'.out).1).trans HN1'.out
        have g2 := (v.h.block _ (Array.getElem?_eq_some_iff.1 HN2.out).1).trans HN2.out
        have gb := (v.h.block _ (Array.getElem?_eq_some_iff.1 HDu2.out).1).trans HDu2.out
        refine ⟨by rw [← HRW0.out.2]; exact blk_cell g0 8 _ rfl, by rw [← HRW0.out.1]; exact blk_cell g0 3 _ rfl, by rw [← HRW1.out.2]; exact blk_cell g1 8 _ rfl, by rw [← HRW1.out.1]; exact blk_cell g1 3 _ rfl, by rw [← HRW2.out.2]; exact blk_cell g2 8 _ rfl, by rw [← HRW2.out.1]; exact blk_cell g2 3 _ rfl, by rw [← HWW.out]; exact blk_cell gb 3 _ rfl, (v.h.cell (p := ⟨kb0, ko0 + 6, none⟩) HQ0'.out.2).trans HQ0'.out.1, (v.h.cell (p := ⟨kb2, ko2 + 6, none⟩) HQ2.out.2).trans HQ2.out.1⟩
      obtain ⟨z0, z1, z2, z3, z4, z5, z6, z7, z8⟩ := HCELL.out ⟨u2, Below.refl _ _⟩
      have z9 := HQ1'.out
      obtain ⟨s1, s2, s3, s4, s5⟩ := SS.out
      go_wp2_with fail
      clear z0 z1 z2 z3 z4 z5 z6 z7 z8 z9
      have a0 := fun v => (HCELL.out v).1
      have a1 := fun v => (HCELL.out v).2.1
      have a2 := fun v => (HCELL.out v).2.2.1
      have a3 := fun v => (HCELL.out v).2.2.2.1
      have a4 := fun v => (HCELL.out v).2.2.2.2.1
      have a5 := fun v => (HCELL.out v).2.2.2.2.2.1
      have a6 := fun v => (HCELL.out v).2.2.2.2.2.2.1
      have a7 := fun v => (HCELL.out v).2.2.2.2.2.2.2.1
      have a8 := fun v => (HCELL.out v).2.2.2.2.2.2.2.2
      have HHF : Hid (∀ v : Bel u2.heap.size u2, Calls Try.prog 23 #[.int .i64 r2] v.v fun e w' => e = .returned (.int .i64 hx) ∧ ∃ v' : Bel u2.heap.size u2, w' = v'.v) := fun v => by
        refine (rhalf_any r2 v.v HRR.out).mono ?_
        rintro e w' ⟨he, rfl⟩
        rw [HHX.out] at he
        exact ⟨he, v, rfl⟩
      refine wp_region_bel (by kernel_rfl) (by kernel_rfl) ?_
      repeat (go_big_quiet_step (first | (go_at_call 23; exact HHF.out _)))
      refine wpQuiet_nil ?_
      rintro W9 ⟨v, rfl⟩
      have HFIN := Lib.hid (below_next HBu2.out v.h)
      go_wp2
      go_ret
      exact ⟨rfl, HFIN.out⟩
end Go.Proofs.Ytjckbdbjcgjcaaa
