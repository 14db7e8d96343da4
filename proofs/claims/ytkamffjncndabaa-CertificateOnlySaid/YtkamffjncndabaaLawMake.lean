/- The walk of CertificateMake. -/
import Derived.Test.YtkamffjncndabaaCertAwake
namespace Go.Proofs.Ytkamffjncndabaa
open Go.RowKit
theorem Make_eq {l : List Int} {E : Int} (A : Option Addr) (c : Nat) (ps : List Pc) (wd ind : Int) (w : World) (h1 : makeL ps wd ind = l) (h2 : makeE ps wd ind = E) (hm : ps.length ≤ lenMax) (hP : Pcs w w.heap.size A ps) :
    Calls Try.prog 11 #[.slice A ps.length c, .int .i64 wd, .int .i64 ind] w (MakeTo l E w) := by
  rw [← h1, ← h2]; exact Make_any A c ps wd ind w hm hP
theorem rMake_eq {l : List Int} {E : Int} (A : Option Addr) (c : Nat) (ps : List Pc) (wd ind : Int) (w : World) (h1 : makeL ps wd ind = l) (h2 : makeE ps wd ind = E) (hm : ps.length ≤ lenMax) (hP : Pcs w w.heap.size A ps) :
    Calls Try.prog 12 #[.slice A ps.length c, .int .i64 wd, .int .i64 ind] w (MakeTo l E w) := by
  rw [← h1, ← h2]; exact rMake_any A c ps wd ind w hm hP
theorem makeL_len (ps : List Pc) (wd ind : Int) : (makeL ps wd ind).length ≤ ps.length + 1 := by
  unfold makeL
  split
  · rw [potL_len]; exact Nat.le_refl _
  · exact Nat.zero_le _
set_option maxHeartbeats 1000000 in
theorem certMake_walk (A : Option Addr) (c : Nat) (ps : List Pc) (wd ind : Int) (w : World) (hm : ps.length ≤ lenMax) (hP : Pcs w w.heap.size A ps) :
    Calls Try.prog 3 #[.slice A ps.length c, .agg #[.int .i64 wd, .int .i64 ind]] w fun e w' => e = .returned (.bool true) ∧ Below w.heap.size w w' := by
  have hm' : ps.length ≤ 9223372036854775807 := hm
  have HM := Lib.hid hm
  have HP := Lib.hid hP
  clear hm hP
  have HB : Hid (Below w.heap.size w (w.alloc (.cells #[.int .i64 wd, .int .i64 ind] 24))) := (Below.refl _ _).alloc (Nat.le_refl _) _
  by_cases h70 : ps.length ≤ 70
  · have hdec : decide ((70 : Int) < (ps.length : Int)) = false := decide_eq_false (by omega)
    obtain ⟨l, hl⟩ : ∃ l, makeL ps wd ind = l := ⟨_, rfl⟩
    obtain ⟨E, hE⟩ : ∃ E, makeE ps wd ind = E := ⟨_, rfl⟩
    have hll : l.length ≤ lenMax := by have := makeL_len ps wd ind; rw [hl] at this; unfold lenMax; omega
    have HLE := Lib.hid (And.intro hl (And.intro hE hll))
    clear hl hE hll
    go_enter Try.func3, Try.ntmps3
    go_wp2_with fail
    refine (cawake_any _).mono ?_
    rintro e w1 ⟨rfl, hb1⟩
    have f0 := kept_box hb1 0 _ rfl
    have f1 := kept_box hb1 1 _ rfl
    have HB1 := Lib.hid hb1
    clear hb1
    go_wp2_with fail
    refine (Make_eq _ _ ps _ _ _ HLE.out.1 HLE.out.2.1 HM.out (HP.out.next (below_next HB.out HB1.out))).mono ?_
    rintro e w2 ⟨⟨A2, c2, rfl, hI2⟩, hb2⟩
    have HI2 := Lib.hid hI2
    have HB2 := Lib.hid (below_next HB1.out hb2)
    clear hI2 hb2 f0 f1
    have f0 := kept_box HB2.out 0 _ rfl
    have f1 := kept_box HB2.out 1 _ rfl
    go_wp2_with fail
    refine (rMake_eq _ _ ps _ _ _ HLE.out.1 HLE.out.2.1 HM.out (HP.out.next (below_next HB.out HB2.out))).mono ?_
    rintro e w3 ⟨⟨A3, c3, rfl, hI3⟩, hb3⟩
    have HI3 := Lib.hid hI3
    have HI2' : Hid (Ints w3 w3.heap.size A2 l) := HI2.out.next hb3
    have HB3 := Lib.hid (below_next HB2.out hb3)
    clear hI3 hb3 f0 f1
    go_wp2_with fail
    refine (same_at (r := true) A2 A3 c2 c3 l l _ (decide_eq_true rfl) HLE.out.2.2 HLE.out.2.2 HI2'.out HI3.out).mono ?_
    rintro e w4 ⟨rfl, hb4⟩
    go_wp2
    go_ret
    exact ⟨rfl, below_next (below_next HB.out HB3.out) hb4⟩
  · go_enter Try.func3, Try.ntmps3
    go_wp2_with fail
    refine (cawake_any _).mono ?_
    rintro e w1 ⟨rfl, hb1⟩
    go_wp2
    go_ret
    exact ⟨rfl, below_next HB.out hb1⟩
end Go.Proofs.Ytkamffjncndabaa
