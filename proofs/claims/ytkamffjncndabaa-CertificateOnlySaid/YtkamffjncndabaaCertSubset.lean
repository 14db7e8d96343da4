/- The reference's Subset. -/
import Derived.Test.YtkamffjncndabaaCertSub
import Derived.Test.YtkamffjncndabaaBrkBest
import Derived.Lib.Hide
namespace Go.Proofs.Ytkamffjncndabaa
open Go.RowKit
theorem and_one64 (x : Int) (h0 : 0 ≤ x) (h1 : x < 18446744073709551616) : bits .and .u64 x 1 = x % 2 :=
  bits_mask .u64 64 (by decide) (fun n a b => IntWalk.u64_in n (by omega)) 1 (by decide) x h0 (by omega)
theorem bit_walk64 (m k : Nat) (hm : m < 18446744073709551616) : bits .and .u64 ((m : Int) / 2 ^ k) 1 = if bitN m k = true then 1 else 0 := by
  have e : ((m : Int) / 2 ^ k) = ((m / 2 ^ k : Nat) : Int) := by simp
  have hle : m / 2 ^ k ≤ m := Nat.div_le_self _ _
  unfold bitN
  rw [e]
  obtain ⟨q, hq⟩ : ∃ q, m / 2 ^ k = q := ⟨_, rfl⟩
  rw [hq] at hle ⊢
  rw [and_one64 _ (by omega) (by omega)]
  by_cases h : q % 2 = 1
  · rw [if_pos (decide_eq_true h)]; omega
  · rw [if_neg (by simp [h])]; omega
set_option maxRecDepth 100000 in
set_option maxHeartbeats 1000000 in
theorem Subset_any (n m : Nat) (w : World) (h1 : 1 ≤ n) (h64 : n ≤ 64) (hm : m < 18446744073709551616) :
    Calls Try.prog 21 #[.int .i64 (n : Int), .int .u64 (m : Int)] w fun e w' =>
      (∃ A' c', e = .returned (.slice A' (subS m (n - 1)).length c') ∧ Ints w' w'.heap.size A' ((subS m (n - 1)).map Int.ofNat)) ∧ Below w.heap.size w w' := by
  obtain ⟨i0, hi0, hz0, hz1, hz2⟩ := info_parts infoI
  have HM := Lib.hid hm
  clear hm
  go_enter Try.func21, Try.ntmps21
  go_wp2_with fail
  have HO1 := Lib.hid (Owns.one w 3 0)
  go_loopw [5, 6] (fun v q wr => ∃ (k : Nat) (A' : Option Addr) (c' : Nat), k + 1 ≤ n ∧ q = .int .i64 ((k : Int) + 1) ∧ v = .slice A' (subS m k).length c' ∧ Owns wr w.heap.size 3 A' c' ((subS m k).map Int.ofNat) ∧ Below w.heap.size w wr) (fun _ q _ => n - (intOf q).toNat)
  case atStart => exact ⟨0, _, _, h1, rfl, rfl, HO1.out, (Below.refl _ _).alloc (Nat.le_refl _) _⟩
  case round =>
    obtain ⟨k, A', c', hk, rfl, rfl, hown, hnx⟩ := hrel
    have HO := Lib.hid hown
    have HNX := Lib.hid hnx
    have hsl := (subS_len m k).2
    clear hown hnx
    by_cases hkl : k + 1 < n
    · have hbw := bit_walk64 m k HM.out
      cases hbt : bitN m k
      · have hb0 : bits .and .u64 ((m : Int) / 2 ^ k) 1 = 0 := by rw [hbw, hbt]; rfl
        have HNO := Lib.hid (subS_no hbt)
        clear hbw hbt
        go_wp2
        go_roundw
        case rel => exact ⟨k + 1, A', c', by omega, by go_num, by rw [HNO.out], by rw [HNO.out]; exact HO.out, HNX.out⟩
        case measure => simp [intOf]; omega
      · have hb1 : bits .and .u64 ((m : Int) / 2 ^ k) 1 = 1 := by rw [hbw, hbt]; rfl
        have HYE := Lib.hid (subS_yes hbt)
        clear hbw hbt
        go_wp2_with (at_builtin; refine wpList_append_one (z := ((k : Int) + 1)) rfl _ _ 26 3 rfl i0 Try.underlying26 hi0 hz0 hz1 hz2 (l := (subS m k).map Int.ofNat) (by simp) rfl (HO.out.alloc _) rfl (heap_alloc_new _ _) (by simp; omega) (by have := HNX.out.size; simp; omega) ?_; intro A2 c2 w5 hown2 hb5; have HO5 := Lib.hid hown2; have HB5 := Lib.hid hb5; clear hown2 hb5)
        go_roundw
        case rel =>
          refine ⟨k + 1, A2, c2, by omega, by go_num, by rw [HYE.out, List.length_append]; rfl, ?_, (HNX.out.alloc HNX.out.size _).trans HB5.out⟩
          rw [HYE.out, List.map_append]
          exact HO5.out
        case measure => simp [intOf]; omega
    · have hk1 : k = n - 1 := by omega
      have HK1 := Lib.hid hk1
      have hnk : n ≤ k + 1 := by omega
      clear hk1
      go_wp2
      go_ret
      exact ⟨⟨A', c', by rw [← HK1.out]; rfl, by rw [← HK1.out]; exact HO.out.ints⟩, HNX.out⟩
end Go.Proofs.Ytkamffjncndabaa
