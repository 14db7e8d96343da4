/- The walk of DemeritSingles. -/
import Derived.Test.YtdmcddhepgodhaaLawBounds
import Derived.Test.YtdmcddhepgodhaaLawTotal
import Derived.Test.YtdmcddhepgodhaaAppOne
namespace Go.Proofs.Ytdmcddhepgodhaa
open Go.RowKit
def upTo (k : Nat) : List Int := (List.range k).map Int.ofNat
theorem upTo_len (k : Nat) : (upTo k).length = k := by simp [upTo]
theorem upTo_succ (k : Nat) : upTo (k + 1) = upTo k ++ [(k : Int)] := by simp [upTo, List.range_succ]
theorem upTo_at {n k : Nat} (h : k < n) : lAt (upTo n) k = k := by simp [lAt, upTo, List.getD, h]
theorem upTo_starts {n : Nat} (h : 0 < n) : startsB n (upTo n) = true := by
  refine startsB_iff.2 ⟨by rw [upTo_len]; exact h, by rw [upTo_at h]; rfl, ?_⟩
  rw [upTo_len]
  have : ∀ m, m ≤ n → okSts n (upTo n) m = true := by
    intro m
    induction m with
    | zero => intro _; rfl
    | succ m ih =>
      intro hm
      show (okSts n (upTo n) m && okSt n (upTo n) m) = true
      rw [ih (by omega), Bool.true_and]
      refine okSt_iff.2 ⟨by rw [upTo_at (by omega)]; omega, ?_⟩
      by_cases h0 : m = 0
      · exact .inl h0
      · exact .inr (by rw [upTo_at (by omega), upTo_at (by omega)]; omega)
  exact this n (Nat.le_refl _)
theorem upTo_legal (ps : List Pc) (w ind : Int) : ∀ m, m ≤ ps.length → totL ps (upTo ps.length) w ind m = true
  | 0, _ => rfl
  | m + 1, h => by
    show (totL ps (upTo ps.length) w ind m && _) = true
    rw [upTo_legal ps w ind m (by omega), Bool.true_and]
    have e : endAt ps.length (upTo ps.length) m = ((m + 1 : Nat) : Int) := by
      unfold endAt
      rw [upTo_len]
      split
      · rw [upTo_at (by omega)]
      · omega
    rw [e, upTo_at (by omega)]
    simp [legV]
theorem upTo_tot {ps : List Pc} {w ind : Int} (hv : validB ps = true) (hf : fitsB w ind = true) : totE ps (upTo ps.length) w ind = 0 := by
  unfold totE
  rw [if_pos ⟨hv, hf⟩, if_pos (upTo_starts (by have := (validB_iff.1 hv).1; omega)), upTo_len, if_pos (upTo_legal ps w ind _ (Nat.le_refl _))]
theorem Total_at {e' : Int} (A A2 : Option Addr) (c c2 : Nat) (ps : List Pc) (l : List Int) (wd ind : Int) (w : World) (he : totE ps l wd ind = e') (hm : ps.length ≤ lenMax) (hl : l.length ≤ lenMax) (hP : Pcs w w.heap.size A ps) (hI : Ints w w.heap.size A2 l) :
    Calls Try.prog 17 #[.slice A ps.length c, .slice A2 l.length c2, .int .i64 wd, .int .i64 ind] w fun e w' => e = .returned (.tuple #[.int .i64 (totN ps l wd ind), .int .i64 e']) ∧ Below w.heap.size w w' := by
  rw [← he]; exact Total_any A A2 c c2 ps l wd ind w hm hl hP hI
set_option maxHeartbeats 4000000 in
theorem demeritSingles_walk (A : Option Addr) (c : Nat) (ps : List Pc) (i j wd ind : Int) (w : World) (hm : ps.length ≤ lenMax) (hP : Pcs w w.heap.size A ps) :
    Calls Try.prog 8 #[.slice A ps.length c, .agg #[.int .i64 i, .int .i64 j, .int .i64 wd, .int .i64 ind]] w fun e w' => e = .returned (.bool true) ∧ Below w.heap.size w w' := by
  have hm' : ps.length ≤ 9223372036854775807 := hm
  have HM := Lib.hid hm
  have HP := Lib.hid hP
  clear hm hP
  have HB : Hid (Below w.heap.size w (w.alloc (.cells #[.int .i64 i, .int .i64 j, .int .i64 wd, .int .i64 ind] 24))) := (Below.refl _ _).alloc (Nat.le_refl _) _
  cases hv : validB ps
  · have HV := Lib.hid hv
    clear hv
    go_enter Try.func8, Try.ntmps8
    go_wp2_with fail
    refine (awake_any _).mono ?_
    rintro e w1 ⟨rfl, hb1⟩
    go_wp2_with fail
    refine (rvalid_at _ _ ps _ HV.out HM.out (HP.out.next (below_next HB.out hb1))).mono ?_
    rintro e w2 ⟨rfl, hb2⟩
    go_wp2
    go_ret
    exact ⟨rfl, below_next HB.out (below_next hb1 hb2)⟩
  · have HV := Lib.hid hv
    clear hv
    have h64 := (validB_iff.1 HV.out).1.2
    cases hf : fitsB wd ind
    · have HF := Lib.hid hf
      clear hf
      go_enter Try.func8, Try.ntmps8
      go_wp2_with fail
      refine (awake_any _).mono ?_
      rintro e w1 ⟨rfl, hb1⟩
      go_wp2_with fail
      refine (rvalid_at _ _ ps _ HV.out HM.out (HP.out.next (below_next HB.out hb1))).mono ?_
      rintro e w2 ⟨rfl, hb2'⟩
      have hb2 := below_next hb1 hb2'
      have f2 := kept_box hb2 2 _ rfl
      have f3 := kept_box hb2 3 _ rfl
      go_wp2_with fail
      refine (rfits_at _ _ _ HF.out).mono ?_
      rintro e w3 ⟨rfl, hb3⟩
      go_wp2
      go_ret
      exact ⟨rfl, below_next HB.out (below_next hb2 hb3)⟩
    · have HF := Lib.hid hf
      have HT := Lib.hid (upTo_tot HV.out hf)
      clear hf
      obtain ⟨i0, hi0, hz0, hz1, hz2⟩ := info_parts info3
      go_enter Try.func8, Try.ntmps8
      go_wp2_with fail
      refine (awake_any _).mono ?_
      rintro e w1 ⟨rfl, hb1⟩
      go_wp2_with fail
      refine (rvalid_at _ _ ps _ HV.out HM.out (HP.out.next (below_next HB.out hb1))).mono ?_
      rintro e w2 ⟨rfl, hb2'⟩
      have hb2 := below_next hb1 hb2'
      have f2 := kept_box hb2 2 _ rfl
      have f3 := kept_box hb2 3 _ rfl
      go_wp2_with fail
      refine (rfits_at _ _ _ HF.out).mono ?_
      rintro e w3 ⟨rfl, hb3'⟩
      have hb3 := below_next hb2 hb3'
      clear f2 f3 hb1 hb2' hb2 hb3'
      go_wp2_with fail
      go_loopw [5, 6] (fun v q wr => ∃ (k : Nat) (A' : Option Addr) (c' : Nat), k ≤ ps.length ∧ q = .int .i64 k ∧ v = .slice A' k c' ∧ Owns wr w3.heap.size 3 A' c' (upTo k) ∧ Below w3.heap.size w3 wr) (fun _ q _ => ps.length - (intOf q).toNat)
      case atStart => exact ⟨0, none, 0, Nat.zero_le _, rfl, rfl, Owns.nil _ _ _, Below.refl _ _⟩
      case round =>
        obtain ⟨k, A', c', hk, rfl, rfl, hown, hnx⟩ := hrel
        by_cases hlt : k < ps.length
        · have HO := Lib.hid hown
          clear hown
          go_wp2_with (at_builtin; refine wpList_append_one rfl _ _ 37 3 rfl i0 Try.underlying37 hi0 hz0 hz1 hz2 (l := upTo k) (by rw [upTo_len]) rfl (HO.out.alloc _) rfl (heap_alloc_new _ _) (by rw [upTo_len]; omega) (by have := hnx.size; simp; omega) ?_; intro A2 c2 w5 hown2 hb5)
          go_roundw
          case rel => exact ⟨k + 1, A2, c2, by omega, by go_num, rfl, by rw [upTo_succ]; exact hown2, (hnx.alloc hnx.size _).trans hb5⟩
          case measure => simp [intOf]; omega
        · obtain rfl : k = ps.length := by omega
          have hbr := below_next hb3 hnx
          have f2 := kept_box hbr 2 _ rfl
          have f3 := kept_box hbr 3 _ rfl
          have HO := Lib.hid hown.ints
          have HI : Hid (Ints wr wr.heap.size A' (upTo ps.length)) := HO
          clear hown
          go_wp2_with fail
          have HC := Total_at A A' c c' ps (upTo ps.length) wd ind wr HT.out HM.out (by rw [upTo_len]; exact HM.out) (HP.out.next (below_next HB.out hbr)) HI.out
          rw [upTo_len] at HC
          refine HC.mono ?_
          rintro e w4 ⟨rfl, hb4⟩
          go_wp2
          go_ret
          exact ⟨rfl, below_next HB.out (below_next hbr hb4)⟩
end Go.Proofs.Ytdmcddhepgodhaa
