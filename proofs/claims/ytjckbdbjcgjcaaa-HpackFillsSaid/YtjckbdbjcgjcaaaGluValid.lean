/- Valid: the program's and the reference's. -/
import Derived.Test.YtjckbdbjcgjcaaaGluBase
import Derived.Test.YtjckbdbjcgjcaaaProg
namespace Go.Proofs.Ytjckbdbjcgjcaaa.Gu
open Go.RowKit
theorem badG {l : List Gl} {k : Nat} (h : ¬ okG l k) : wdAt l k < -1048576 ∨ (-1048576 ≤ wdAt l k ∧ 1048576 < wdAt l k) ∨ (-1048576 ≤ wdAt l k ∧ wdAt l k ≤ 1048576 ∧ stAt l k < 0) ∨ (-1048576 ≤ wdAt l k ∧ wdAt l k ≤ 1048576 ∧ 0 ≤ stAt l k ∧ 1048576 < stAt l k) ∨
    (-1048576 ≤ wdAt l k ∧ wdAt l k ≤ 1048576 ∧ 0 ≤ stAt l k ∧ stAt l k ≤ 1048576 ∧ shAt l k < 0) ∨ (-1048576 ≤ wdAt l k ∧ wdAt l k ≤ 1048576 ∧ 0 ≤ stAt l k ∧ stAt l k ≤ 1048576 ∧ 0 ≤ shAt l k ∧ 1048576 < shAt l k) ∨
    (-1048576 ≤ wdAt l k ∧ wdAt l k ≤ 1048576 ∧ 0 ≤ stAt l k ∧ stAt l k ≤ 1048576 ∧ 0 ≤ shAt l k ∧ shAt l k ≤ 1048576 ∧ odAt l k < 0) ∨ (-1048576 ≤ wdAt l k ∧ wdAt l k ≤ 1048576 ∧ 0 ≤ stAt l k ∧ stAt l k ≤ 1048576 ∧ 0 ≤ shAt l k ∧ shAt l k ≤ 1048576 ∧ 0 ≤ odAt l k ∧ 4 ≤ odAt l k) := by
  unfold okG at h
  generalize wdAt l k = a at *
  generalize stAt l k = b at *
  generalize shAt l k = c at *
  generalize odAt l k = d at *
  omega
set_option maxRecDepth 100000 in
set_option maxHeartbeats 2000000 in
/-- Valid walks through the elements up to the first one that is not as it has to be. -/
theorem gvalid_any {r : Bool} (A : Option Addr) (c : Nat) (l : List Gl) (w : World) (hm : l.length ≤ lenMax) (hP : Gls w w.heap.size A l) (hr : r = true ↔ VG l) :
    Calls Try.prog 29 #[.slice A l.length c] w fun e w' => e = .returned (.bool r) ∧ Below w.heap.size w w' := by
  unfold lenMax at hm
  have HR := Lib.hid hr
  clear hr
  by_cases h200 : 200 < l.length
  · have hrf : r = false := by
      cases r with
      | false => rfl
      | true => have := (HR.out.1 rfl).1; omega
    subst hrf
    go_enter Try.func29, Try.ntmps29
    go_wp2
    go_ret
    exact ⟨rfl, Below.refl _ _⟩
  · have HP := Lib.hid hP
    clear hP
    go_enter Try.func29, Try.ntmps29
    go_wp2
    go_loopw [10] (fun i wr => ∃ k : Nat, k ≤ l.length ∧ i = .int .i64 k ∧ (∀ j, j < k → okG l j) ∧ Below w.heap.size w wr) (fun i _ => l.length - (intOf i).toNat)
    case atStart => exact ⟨0, Nat.zero_le _, rfl, fun j h => absurd h (Nat.not_lt_zero _), Below.refl _ _⟩
    case round =>
      obtain ⟨k, hk, rfl, hall, hnx⟩ := hrel
      have HALL := Lib.hid hall
      have HNX := Lib.hid hnx
      have hws := hnx.size
      clear hall hnx
      by_cases hlt : k < l.length
      · obtain ⟨b, off, rfl, hB, hc⟩ := HP.out (by omega)
        obtain ⟨c0, c1, c2, c3⟩ := hc k hlt
        replace c0 := (HNX.out.cell (p := ⟨b, off + k * 4, none⟩) hB).trans c0
        replace c1 := (HNX.out.cell (p := ⟨b, off + k * 4 + 1, none⟩) hB).trans c1
        replace c2 := (HNX.out.cell (p := ⟨b, off + k * 4 + 2, none⟩) hB).trans c2
        replace c3 := (HNX.out.cell (p := ⟨b, off + k * 4 + 3, none⟩) hB).trans c3
        have HOK : Hid (okG l k → ∀ j, j < k + 1 → okG l j) := fun h j hj => by
          by_cases e : j = k
          · subst e; exact h
          · exact HALL.out j (by omega)
        have HBAD : Hid (¬ okG l k → r = false) := fun h => by
          cases r with
          | false => rfl
          | true => exact absurd ((HR.out.1 rfl).2 k hlt) h
        clear hc
        by_cases ho : okG l k
        · have HO := Lib.hid (HOK.out ho)
          unfold okG at ho
          obtain ⟨a1, a2, a3, a4, a5, a6, a7, a8⟩ := ho
          clear HOK HBAD
          generalize wdAt l k = W at *
          generalize stAt l k = S at *
          generalize shAt l k = Q at *
          generalize odAt l k = D at *
          rcases (show (Q < S ∧ ¬ S < Q) ∨ (¬ Q < S ∧ S < Q) ∨ (¬ Q < S ∧ ¬ S < Q) by omega) with ⟨t1, t2⟩ | ⟨t1, t2⟩ | ⟨t1, t2⟩
          all_goals
            go_wp2
            go_roundw
            case rel => exact ⟨k + 1, by omega, by go_num, HO.out, HNX.out.alloc (by omega) _⟩
            case measure => simp [intOf]; omega
        · have hrf : r = false := HBAD.out ho
          subst hrf
          clear HOK HBAD
          unfold okG at ho
          generalize wdAt l k = W at *
          generalize stAt l k = S at *
          generalize shAt l k = Q at *
          generalize odAt l k = D at *
          rcases (show (Q < S ∧ ¬ S < Q) ∨ (¬ Q < S ∧ S < Q) ∨ (¬ Q < S ∧ ¬ S < Q) by omega) with ⟨t1, t2⟩ | ⟨t1, t2⟩ | ⟨t1, t2⟩
          · rcases (show W < -1048576 ∨ (-1048576 ≤ W ∧ 1048576 < W) ∨ (-1048576 ≤ W ∧ W ≤ 1048576 ∧ Q < 0) ∨ (-1048576 ≤ W ∧ W ≤ 1048576 ∧ 0 ≤ Q ∧ 1048576 < S) ∨ (-1048576 ≤ W ∧ W ≤ 1048576 ∧ 0 ≤ Q ∧ S ≤ 1048576 ∧ D < 0) ∨ (-1048576 ≤ W ∧ W ≤ 1048576 ∧ 0 ≤ Q ∧ S ≤ 1048576 ∧ 0 ≤ D ∧ 4 ≤ D) by omega) with a1 | ⟨a1, a2⟩ | ⟨a1, a2, a3⟩ | ⟨a1, a2, a3, a4⟩ | ⟨a1, a2, a3, a4, a5⟩ | ⟨a1, a2, a3, a4, a5, a6⟩
            all_goals
              clear ho
              go_wp2
              go_ret
              exact ⟨rfl, HNX.out.alloc (by omega) _⟩
          · rcases (show W < -1048576 ∨ (-1048576 ≤ W ∧ 1048576 < W) ∨ (-1048576 ≤ W ∧ W ≤ 1048576 ∧ S < 0) ∨ (-1048576 ≤ W ∧ W ≤ 1048576 ∧ 0 ≤ S ∧ 1048576 < Q) ∨ (-1048576 ≤ W ∧ W ≤ 1048576 ∧ 0 ≤ S ∧ Q ≤ 1048576 ∧ D < 0) ∨ (-1048576 ≤ W ∧ W ≤ 1048576 ∧ 0 ≤ S ∧ Q ≤ 1048576 ∧ 0 ≤ D ∧ 4 ≤ D) by omega) with a1 | ⟨a1, a2⟩ | ⟨a1, a2, a3⟩ | ⟨a1, a2, a3, a4⟩ | ⟨a1, a2, a3, a4, a5⟩ | ⟨a1, a2, a3, a4, a5, a6⟩
            all_goals
              clear ho
              go_wp2
              go_ret
              exact ⟨rfl, HNX.out.alloc (by omega) _⟩
          · rcases (show W < -1048576 ∨ (-1048576 ≤ W ∧ 1048576 < W) ∨ (-1048576 ≤ W ∧ W ≤ 1048576 ∧ S < 0) ∨ (-1048576 ≤ W ∧ W ≤ 1048576 ∧ 0 ≤ S ∧ 1048576 < S) ∨ (-1048576 ≤ W ∧ W ≤ 1048576 ∧ 0 ≤ S ∧ S ≤ 1048576 ∧ D < 0) ∨ (-1048576 ≤ W ∧ W ≤ 1048576 ∧ 0 ≤ S ∧ S ≤ 1048576 ∧ 0 ≤ D ∧ 4 ≤ D) by omega) with a1 | ⟨a1, a2⟩ | ⟨a1, a2, a3⟩ | ⟨a1, a2, a3, a4⟩ | ⟨a1, a2, a3, a4, a5⟩ | ⟨a1, a2, a3, a4, a5, a6⟩
            all_goals
              clear ho
              go_wp2
              go_ret
              exact ⟨rfl, HNX.out.alloc (by omega) _⟩
      · obtain rfl : k = l.length := by omega
        have hrt : r = true := HR.out.2 ⟨by omega, HALL.out⟩
        subst hrt
        go_wp2
        go_ret
        exact ⟨rfl, HNX.out⟩
set_option maxRecDepth 100000 in
set_option maxHeartbeats 2000000 in
theorem rvalidg_any {r : Bool} (A : Option Addr) (c : Nat) (l : List Gl) (w : World) (hm : l.length ≤ lenMax) (hP : Gls w w.heap.size A l) (hr : r = true ↔ VG l) :
    Calls Try.prog 16 #[.slice A l.length c] w fun e w' => e = .returned (.bool r) ∧ Below w.heap.size w w' := by
  unfold lenMax at hm
  have HR := Lib.hid hr
  have HP := Lib.hid hP
  clear hP hr
  go_enter Try.func16, Try.ntmps16
  go_wp2
  go_loopw [3] (fun i wr => ∃ k : Nat, k ≤ l.length ∧ i = .int .i64 k ∧ (∀ j, j < k → okG l j) ∧ Below w.heap.size w wr) (fun i _ => l.length - (intOf i).toNat)
  case atStart => exact ⟨0, Nat.zero_le _, rfl, fun j h => absurd h (Nat.not_lt_zero _), Below.refl _ _⟩
  case round =>
    obtain ⟨k, hk, rfl, hall, hnx⟩ := hrel
    have HALL := Lib.hid hall
    have HNX := Lib.hid hnx
    have hws := hnx.size
    clear hall hnx
    by_cases hlt : k < l.length
    · obtain ⟨b, off, rfl, hB, hc⟩ := HP.out (by omega)
      obtain ⟨c0, c1, c2, c3⟩ := hc k hlt
      replace c0 := (HNX.out.cell (p := ⟨b, off + k * 4, none⟩) hB).trans c0
      replace c1 := (HNX.out.cell (p := ⟨b, off + k * 4 + 1, none⟩) hB).trans c1
      replace c2 := (HNX.out.cell (p := ⟨b, off + k * 4 + 2, none⟩) hB).trans c2
      replace c3 := (HNX.out.cell (p := ⟨b, off + k * 4 + 3, none⟩) hB).trans c3
      have HOK : Hid (okG l k → ∀ j, j < k + 1 → okG l j) := fun h j hj => by
        by_cases e : j = k
        · subst e; exact h
        · exact HALL.out j (by omega)
      have HBAD : Hid (¬ okG l k → r = false) := fun h => by
        cases r with
        | false => rfl
        | true => exact absurd ((HR.out.1 rfl).2 k hlt) h
      clear hc
      by_cases ho : okG l k
      · have HO := Lib.hid (HOK.out ho)
        unfold okG at ho
        obtain ⟨a1, a2, a3, a4, a5, a6, a7, a8⟩ := ho
        clear HOK HBAD
        generalize wdAt l k = W at *
        generalize stAt l k = S at *
        generalize shAt l k = Q at *
        generalize odAt l k = D at *
        go_wp2
        go_roundw
        case rel => exact ⟨k + 1, by omega, by go_num, HO.out, HNX.out.alloc (by omega) _⟩
        case measure => simp [intOf]; omega
      · have hrf : r = false := HBAD.out ho
        subst hrf
        have hbad := badG ho
        clear HOK HBAD ho
        generalize wdAt l k = W at *
        generalize stAt l k = S at *
        generalize shAt l k = Q at *
        generalize odAt l k = D at *
        rcases hbad with a1 | ⟨a1, a2⟩ | ⟨a1, a2, a3⟩ | ⟨a1, a2, a3, a4⟩ | ⟨a1, a2, a3, a4, a5⟩ | ⟨a1, a2, a3, a4, a5, a6⟩ | ⟨a1, a2, a3, a4, a5, a6, a7⟩ | ⟨a1, a2, a3, a4, a5, a6, a7, a8⟩
        all_goals
          go_wp2
          go_ret
          exact ⟨rfl, HNX.out.alloc (by omega) _⟩
    · obtain rfl : k = l.length := by omega
      by_cases h200 : l.length ≤ 200
      · have hrt : r = true := HR.out.2 ⟨h200, HALL.out⟩
        subst hrt
        go_wp2
        go_ret
        exact ⟨by simp; omega, HNX.out⟩
      · have hrf : r = false := by
          cases r with
          | false => rfl
          | true => exact absurd (HR.out.1 rfl).1 h200
        subst hrf
        go_wp2
        go_ret
        exact ⟨by simp; omega, HNX.out⟩
end Go.Proofs.Ytjckbdbjcgjcaaa.Gu
