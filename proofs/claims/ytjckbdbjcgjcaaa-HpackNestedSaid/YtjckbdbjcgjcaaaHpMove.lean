/- hpack.mover and its closure; the tests of a row. -/
import Derived.Test.YtjckbdbjcgjcaaaHpPlain
import Derived.Test.YtjckbdbjcgjcaaaBoxValid
import Derived.Laws.EntriesVeiled
namespace Go.Proofs.Ytjckbdbjcgjcaaa
open Go.RowKit
set_option maxRecDepth 100000 in
set_option maxHeartbeats 400000 in
theorem mover_any (w : World) : Calls Try.prog 32 #[] w fun e w' => e = .returned (.func (.func 58) #[] #[.pointer (some ⟨w.heap.size, 0, none⟩)]) ∧ w' = w.alloc (.cells #[.int .i64 0] 3) := by
  go_enter Try.func32, Try.ntmps32
  go_wp2
  go_ret
  exact ⟨rfl, rfl⟩
set_option maxRecDepth 100000 in
set_option maxHeartbeats 400000 in
theorem move_any (p : Nat) (e s wd x y : Int) (w : World) (hp : w.heap[p]? = some (.cells #[.int .i64 e] 3 (0, 0))) (hx : IntKind.i64.wrap (e + s) = x) (hy : IntKind.i64.wrap (x + wd) = y) :
    Calls Try.prog 58 #[.int .i64 s, .int .i64 wd, .pointer (some ⟨p, 0, none⟩)] w fun e w' => e = .returned (.int .i64 x) ∧ w' = w.setCell ⟨p, 0, none⟩ (.int .i64 y) := by
  have e0 : w.cell? ⟨p, 0, none⟩ = some (.int .i64 e) := blk_cell hp 0 _ rfl
  have z0 := blk_free hp 0
  clear hp
  go_enter Try.func58, Try.ntmps58
  go_wp2
  go_ret
  exact ⟨rfl, rfl⟩
set_option maxRecDepth 100000 in
set_option maxHeartbeats 1000000 in
theorem hvalid_any {v : Bool} (A : Option Addr) (l : List Bx) (c : Nat) (w : World) (hv : v = true ↔ allV l) (hc : cntL l ≤ 1000) (hK : Kids w 0 w.heap.size A l) :
    Calls Try.prog 28 #[.slice A l.length c] w fun e w' => e = .returned (.bool v) ∧ Below w.heap.size w w' := by
  obtain ⟨i1, hi1, hy0, hy1, hy2⟩ := info_parts infoBox
  have HCN := Lib.hid hc
  have hl : l.length ≤ 1000 := by have := cnt_len l; omega
  have HK := Lib.hid hK
  have HV := Lib.hid hv
  clear hc hK hv
  go_enter Try.func28, Try.ntmps28
  go_wp2_with fail
  go_loopw [6] (fun q wr => ∃ i : Nat, i ≤ l.length ∧ q = .int .i64 (i : Int) ∧ (∀ k, k < i → validB (kidAt l k)) ∧ Below w.heap.size w wr) (fun q _ => l.length - (intOf q).toNat)
  case atStart => exact ⟨0, Nat.zero_le _, rfl, fun k hk => absurd hk (Nat.not_lt_zero _), Below.refl _ _⟩
  case round =>
    obtain ⟨i, hi, rfl, hall, hbw⟩ := hrel
    have HALL := Lib.hid hall
    have HB := Lib.hid hbw
    clear hall hbw
    by_cases hlt : i < l.length
    · obtain ⟨kb, ko, A1, c1, A2, c2, rfl, _, hkb, hat, hk1, hi1', hl1⟩ := HK.out.at hlt
      have HC : Hid (∀ j, j < 11 → wr.cell? ⟨kb, ko + i * 11 + j, none⟩ = (bxA (kidAt l i) A1 c1 A2 c2)[j]?) := fun j hj => (HB.out.cell (p := ⟨kb, ko + i * 11 + j, none⟩) hkb).trans (hat j hj)
      obtain ⟨r, hr⟩ := bool_of (validB (kidAt l i))
      have HR := Lib.hid hr
      have HKI : Hid (Kids wr 0 wr.heap.size A1 (kidAt l i).kids ∧ Ints wr 0 wr.heap.size A2 (kidAt l i).src ∧ lens (kidAt l i)) := ⟨hk1.next HB.out, hi1'.next HB.out, hl1⟩
      clear hat hk1 hi1' hl1 hr
      go_wp2_with ((with_reducible refine at_load 28 ?_); go_loud (refine wpList_load_all i1 11 hi1 hy1 _ Try.underlying28 rfl rfl HC.out ?_))
      refine (bValid_any (kidAt l i) A1 c1 A2 c2 _ HKI.out.2.2 (by have := cnt_kid l hlt; have := HCN.out; omega) HR.out HKI.out.1 HKI.out.2.1).mono ?_
      rintro e w2 ⟨rfl, hb2⟩
      have HB2 := Lib.hid (below_next HB.out hb2)
      clear hb2
      cases r with
      | false =>
        go_wp2
        go_ret
        refine ⟨ret_bool ?_, HB2.out⟩
        cases v with
        | false => rfl
        | true => have h2 := HR.out.2 (HV.out.1 rfl i hlt); simp at h2
      | true =>
        have HVI : Hid (validB (kidAt l i)) := HR.out.1 rfl
        clear HR
        go_wp2_with fail
        go_roundw
        case rel => exact ⟨i + 1, by omega, by go_num, fun k hk => by
          rcases Nat.lt_succ_iff_lt_or_eq.1 hk with h | rfl
          · exact HALL.out k h
          · exact HVI.out, HB2.out⟩
        case measure => simp [intOf]; omega
    · obtain rfl : i = l.length := by omega
      go_wp2
      go_ret
      exact ⟨ret_bool (HV.out.2 HALL.out).symm, HB.out⟩
set_option maxRecDepth 100000 in
set_option maxHeartbeats 1000000 in
theorem rhvalid_any {v : Bool} (A : Option Addr) (l : List Bx) (c : Nat) (w : World) (hv : v = true ↔ allV l) (hc : cntL l ≤ 1000) (hK : Kids w 0 w.heap.size A l) :
    Calls Try.prog 34 #[.slice A l.length c] w fun e w' => e = .returned (.bool v) ∧ Below w.heap.size w w' := by
  obtain ⟨i1, hi1, hy0, hy1, hy2⟩ := info_parts infoBox
  have HCN := Lib.hid hc
  have hl : l.length ≤ 1000 := by have := cnt_len l; omega
  have HK := Lib.hid hK
  have HV := Lib.hid hv
  clear hc hK hv
  go_enter Try.func34, Try.ntmps34
  go_wp2_with fail
  go_loopw [3] (fun q wr => ∃ i : Nat, i ≤ l.length ∧ q = .int .i64 (i : Int) ∧ (∀ k, k < i → validB (kidAt l k)) ∧ Below w.heap.size w wr) (fun q _ => l.length - (intOf q).toNat)
  case atStart => exact ⟨0, Nat.zero_le _, rfl, fun k hk => absurd hk (Nat.not_lt_zero _), Below.refl _ _⟩
  case round =>
    obtain ⟨i, hi, rfl, hall, hbw⟩ := hrel
    have HALL := Lib.hid hall
    have HB := Lib.hid hbw
    clear hall hbw
    by_cases hlt : i < l.length
    · obtain ⟨kb, ko, A1, c1, A2, c2, rfl, _, hkb, hat, hk1, hi1', hl1⟩ := HK.out.at hlt
      have HC : Hid (∀ j, j < 11 → wr.cell? ⟨kb, ko + i * 11 + j, none⟩ = (bxA (kidAt l i) A1 c1 A2 c2)[j]?) := fun j hj => (HB.out.cell (p := ⟨kb, ko + i * 11 + j, none⟩) hkb).trans (hat j hj)
      obtain ⟨r, hr⟩ := bool_of (validB (kidAt l i))
      have HR := Lib.hid hr
      have HKI : Hid (Kids wr 0 wr.heap.size A1 (kidAt l i).kids ∧ Ints wr 0 wr.heap.size A2 (kidAt l i).src ∧ lens (kidAt l i)) := ⟨hk1.next HB.out, hi1'.next HB.out, hl1⟩
      clear hat hk1 hi1' hl1 hr
      go_wp2_with ((with_reducible refine at_load 28 ?_); go_loud (refine wpList_load_all i1 11 hi1 hy1 _ Try.underlying28 rfl rfl HC.out ?_))
      refine (rValid_any (kidAt l i) A1 c1 A2 c2 _ HKI.out.2.2 (by have := cnt_kid l hlt; have := HCN.out; omega) HR.out HKI.out.1 HKI.out.2.1).mono ?_
      rintro e w2 ⟨rfl, hb2⟩
      have HB2 := Lib.hid (below_next HB.out hb2)
      clear hb2
      cases r with
      | false =>
        go_wp2
        go_ret
        refine ⟨ret_bool ?_, HB2.out⟩
        cases v with
        | false => rfl
        | true => have h2 := HR.out.2 (HV.out.1 rfl i hlt); simp at h2
      | true =>
        have HVI : Hid (validB (kidAt l i)) := HR.out.1 rfl
        clear HR
        go_wp2_with fail
        go_roundw
        case rel => exact ⟨i + 1, by omega, by go_num, fun k hk => by
          rcases Nat.lt_succ_iff_lt_or_eq.1 hk with h | rfl
          · exact HALL.out k h
          · exact HVI.out, HB2.out⟩
        case measure => simp [intOf]; omega
    · obtain rfl : i = l.length := by omega
      go_wp2
      go_ret
      exact ⟨ret_bool (HV.out.2 HALL.out).symm, HB.out⟩
/-- The sum of the first n widths, as it is reckoned. -/
def widX (l : List Bx) : Nat → Int
  | 0 => 0
  | n + 1 => IntKind.i64.wrap (widX l n + (kidAt l n).w)
set_option maxRecDepth 100000 in
set_option maxHeartbeats 1000000 in
theorem width_any (A : Option Addr) (l : List Bx) (c : Nat) (w : World) (hl : l.length ≤ 1000) (hK : Kids w 0 w.heap.size A l) :
    Calls Try.prog 35 #[.slice A l.length c] w fun e w' => e = .returned (.int .i64 (widX l l.length)) ∧ Below w.heap.size w w' := by
  have HK := Lib.hid hK
  clear hK
  go_enter Try.func35, Try.ntmps35
  go_wp2_with fail
  go_loopw [3, 4] (fun v q wr => ∃ i : Nat, i ≤ l.length ∧ q = .int .i64 (i : Int) ∧ v = .int .i64 (widX l i) ∧ Below w.heap.size w wr) (fun _ q _ => l.length - (intOf q).toNat)
  case atStart => exact ⟨0, Nat.zero_le _, rfl, rfl, Below.refl _ _⟩
  case round =>
    obtain ⟨i, hi, rfl, rfl, hbw⟩ := hrel
    have HB := Lib.hid hbw
    clear hbw
    by_cases hlt : i < l.length
    · obtain ⟨kb, ko, A1, c1, A2, c2, rfl, _, hkb, hat, -⟩ := HK.out.at hlt
      obtain ⟨ww, hww⟩ : ∃ ww, (kidAt l i).w = ww := ⟨_, rfl⟩
      have y3 : wr.cell? ⟨kb, ko + i * 11 + 3, none⟩ = some (.int .i64 ww) := by rw [← hww]; exact (HB.out.cell (p := ⟨kb, ko + i * 11 + 3, none⟩) hkb).trans (hat 3 (by omega))
      obtain ⟨v, hv⟩ : ∃ v, widX l i = v := ⟨_, rfl⟩
      obtain ⟨v', hv'⟩ : ∃ v', widX l (i + 1) = v' := ⟨_, rfl⟩
      have s1 : IntKind.i64.wrap (v + ww) = v' := by rw [← hv', widX, hv, hww]
      have HN := Lib.hid hv'
      rw [hv]
      clear hat hww hv hv'
      go_wp2_with fail
      try (go_quiet (fail); go_wp2_with fail)
      go_roundw
      case rel => exact ⟨i + 1, by omega, by go_num, by rw [HN.out], by first | exact HB.out | exact below_drewN HB.out _⟩
      case measure => simp [intOf]; omega
    · obtain rfl : i = l.length := by omega
      go_wp2
      go_ret
      exact ⟨rfl, HB.out⟩
end Go.Proofs.Ytjckbdbjcgjcaaa
