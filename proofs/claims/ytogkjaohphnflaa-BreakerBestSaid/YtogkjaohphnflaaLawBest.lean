/- The walk of BreakerBest. -/
import Derived.Test.YtogkjaohphnflaaRefBest
import Derived.Test.YtogkjaohphnflaaAppStep
import Derived.Test.YtogkjaohphnflaaAppPcs
namespace Go.Proofs.Ytogkjaohphnflaa
open Go.RowKit
theorem Best_len {P : List Nat} {t E : Int} (A : Option Addr) (c : Nat) (ps : List Pc) (wd ind : Int) (w : World) (h1 : bestA ps wd ind = P) (h2 : bestN ps wd ind = t) (h3 : bestE ps wd ind = E) (hm : ps.length ≤ lenMax) (hP : Pcs w w.heap.size A ps) :
    Calls Try.prog 12 #[.slice A ps.length c, .int .i64 wd, .int .i64 ind] w (LinesTo P t E w) := by
  rw [← h1, ← h2, ← h3]
  cases hp : parB ps wd ind with
  | true =>
    have e1 : bestA ps wd ind = bestP ps wd ind := by unfold bestA; rw [if_pos hp]
    have e2 : bestN ps wd ind = (bestT ps wd ind).dm := by unfold bestN; rw [if_pos hp]
    have e3 : bestE ps wd ind = 0 := by unfold bestE; rw [if_pos hp]
    rw [e1, e2, e3]
    exact Best_yes A c ps wd ind w (parB_iff.1 hp).1 (parB_iff.1 hp).2 hP
  | false =>
    have e1 : bestA ps wd ind = [] := by unfold bestA; rw [if_neg (by rw [hp]; simp)]
    have e2 : bestN ps wd ind = 0 := by unfold bestN; rw [if_neg (by rw [hp]; simp)]
    have e3 : bestE ps wd ind = 1 := by unfold bestE; rw [if_neg (by rw [hp]; simp)]
    rw [e1, e2, e3]
    refine (Best_no A c ps wd ind w hp hm hP).mono ?_
    rintro e w' ⟨he, hb⟩
    exact ⟨⟨none, 0, he, ints_nil _ _ _⟩, hb⟩
theorem rBest_len {P : List Nat} {t E : Int} (A : Option Addr) (c : Nat) (ps : List Pc) (wd ind : Int) (w : World) (h1 : bestA ps wd ind = P) (h2 : bestN ps wd ind = t) (h3 : bestE ps wd ind = E) (hm : ps.length ≤ 10) (hP : Pcs w w.heap.size A ps) :
    Calls Try.prog 16 #[.slice A ps.length c, .int .i64 wd, .int .i64 ind] w (LinesTo P t E w) := by
  rw [← h1, ← h2, ← h3]; exact rBest_any A c ps wd ind w hm hP
def fewN (ps : List Pc) (wd ind : Int) : Int := if parB ps wd ind = true then (fewT ps.length (gG ps wd ind) 0 : Int) else 0
theorem Fewest_len {k E : Int} (A : Option Addr) (c : Nat) (ps : List Pc) (wd ind : Int) (w : World) (h1 : fewN ps wd ind = k) (h3 : bestE ps wd ind = E) (hm : ps.length ≤ lenMax) (hP : Pcs w w.heap.size A ps) :
    Calls Try.prog 17 #[.slice A ps.length c, .int .i64 wd, .int .i64 ind] w fun e w' => e = .returned (.tuple #[.int .i64 k, .int .i64 E]) ∧ Below w.heap.size w w' := by
  rw [← h1, ← h3]
  unfold fewN bestE
  cases hp : parB ps wd ind with
  | true => exact Fewest_yes A c ps wd ind w (parB_iff.1 hp).1 (parB_iff.1 hp).2 hP
  | false => exact Fewest_no A c ps wd ind w hp hm hP
theorem rFewest_len {k E : Int} (A : Option Addr) (c : Nat) (ps : List Pc) (wd ind : Int) (w : World) (h1 : fewN ps wd ind = k) (h3 : bestE ps wd ind = E) (hm : ps.length ≤ 10) (hP : Pcs w w.heap.size A ps) :
    Calls Try.prog 18 #[.slice A ps.length c, .int .i64 wd, .int .i64 ind] w fun e w' => e = .returned (.tuple #[.int .i64 k, .int .i64 E]) ∧ Below w.heap.size w w' := by
  rw [← h1, ← h3]
  unfold fewN bestE
  cases hp : parB ps wd ind with
  | true => exact rFewest_yes A c ps wd ind w hp hm hP
  | false => exact rFewest_no A c ps wd ind w hp (by unfold lenMax; omega) hP
theorem bestA_le (ps : List Pc) (wd ind : Int) : (bestA ps wd ind).length ≤ ps.length := by
  unfold bestA
  split
  · rename_i hp
    exact (numbers_law hp).2.1
  · exact Nat.zero_le _
set_option maxRecDepth 100000 in
set_option maxHeartbeats 1000000 in
theorem breakerBest_walk (A : Option Addr) (c : Nat) (ps : List Pc) (wd ind ln : Int) (w : World) (hm : ps.length ≤ lenMax) (hP : Pcs w w.heap.size A ps) :
    Calls Try.prog 5 #[.slice A ps.length c, .agg #[.int .i64 wd, .int .i64 ind, .int .i64 ln]] w fun e w' => e = .returned (.bool true) ∧ Below w.heap.size w w' := by
  have hm' : ps.length ≤ 9223372036854775807 := hm
  have HM := Lib.hid hm
  have HP := Lib.hid hP
  clear hm hP
  have HB : Hid (Below w.heap.size w (w.alloc (.cells #[.int .i64 wd, .int .i64 ind, .int .i64 ln] 24))) := (Below.refl _ _).alloc (Nat.le_refl _) _
  by_cases h10 : ps.length ≤ 10
  · have hdec : decide ((10 : Int) < (ps.length : Int)) = false := decide_eq_false (by omega)
    obtain ⟨P, hP1⟩ : ∃ P, bestA ps wd ind = P := ⟨_, rfl⟩
    obtain ⟨t, ht1⟩ : ∃ t, bestN ps wd ind = t := ⟨_, rfl⟩
    obtain ⟨E, hE1⟩ : ∃ E, bestE ps wd ind = E := ⟨_, rfl⟩
    obtain ⟨k, hk1⟩ : ∃ k, fewN ps wd ind = k := ⟨_, rfl⟩
    have hPl : P.length ≤ 64 := by have := bestA_le ps wd ind; rw [hP1] at this; omega
    have HPE := Lib.hid (And.intro hP1 (And.intro ht1 hE1))
    have HK := Lib.hid hk1
    clear hP1 ht1 hE1 hk1
    obtain ⟨i0, hi0, hz0, hz1, hz2⟩ := info_parts info34
    go_enter Try.func5, Try.ntmps5
    go_wp2_with fail
    refine (bawake_any _).mono ?_
    rintro e w1 ⟨rfl, hb1⟩
    have f0 := kept_box hb1 0 _ rfl
    have f1 := kept_box hb1 1 _ rfl
    have hs1 := hb1.size
    simp only [World.size_alloc] at hs1
    have HB1 := Lib.hid hb1
    clear hb1
    have HPC : Hid (Pcs w1 w1.heap.size A ps) := HP.out.next (below_next HB.out HB1.out)
    go_wp2_with fail
    go_region_held3 (fun W => W.cell? ⟨w.heap.size, 0, none⟩ = some (.int .i64 wd) ∧ W.cell? ⟨w.heap.size, 1, none⟩ = some (.int .i64 ind)) (go_keep)
      (first
        | (refine step_append_copy (by rfl) _ _ 22 34 (by rfl) i0 (.agg #[.int .i64 0, .int .i64 0, .int .i64 0]) 3 24 Try.underlying22 hi0 hz0 hz1 hz2 (by rfl) (by decide) (g := w1.heap.size) (n := ps.length) (c := c) (A := A) (by rfl) (by rfl) (heap_alloc_new _ _) (pcsV ps) (pcsV_len ps) (pcs_src (Pcs.below (w := w1) HPC.out (((Below.refl _ w1).drew).alloc (by simp) _))) (pcsV_one ps) (by unfold maxLen; omega) (by omega) ?_; intro A2 c2 w2 hcp hbA
           have HCP := Lib.hid (PcsB.of hcp)
           have hbT : Below w1.heap.size w1 w2 := (((Below.refl _ w1).drew).alloc (by simp) _).trans hbA
           have f0' := (hbT.cell (p := ⟨w.heap.size, 0, none⟩) (by simp; omega)).trans f0
           have f1' := (hbT.cell (p := ⟨w.heap.size, 1, none⟩) (by simp; omega)).trans f1)
        | (go_at_call 12; refine (Best_len _ _ ps _ _ _ HPE.out.1 HPE.out.2.1 HPE.out.2.2 HM.out HCP.out.pcs).mono ?_; rintro e w3 ⟨⟨A3, c3, rfl, hI3⟩, hb3⟩
           have f0'' := (hb3.cell (p := ⟨w.heap.size, 0, none⟩) (by have := hbT.size; simp; omega)).trans f0'
           have f1'' := (hb3.cell (p := ⟨w.heap.size, 1, none⟩) (by have := hbT.size; simp; omega)).trans f1'))
    have HB3 : Hid (Below (w.alloc (.cells #[.int .i64 wd, .int .i64 ind, .int .i64 ln] 24)).heap.size (w.alloc (.cells #[.int .i64 wd, .int .i64 ind, .int .i64 ln] 24)) w3) := below_next (below_next HB1.out hbT) hb3
    have HI3 := Lib.hid hI3
    clear hcp hbA hI3 f0 f1 f0' f1' f0'' f1'' hb3 hbT
    have f0 := kept_box HB3.out 0 _ rfl
    have f1 := kept_box HB3.out 1 _ rfl
    go_wp2_with fail
    refine (rBest_len _ _ ps _ _ _ HPE.out.1 HPE.out.2.1 HPE.out.2.2 h10 (HP.out.next (below_next HB.out HB3.out))).mono ?_
    rintro e w4 ⟨⟨A4, c4, rfl, hI4⟩, hb4⟩
    have HI4 := Lib.hid hI4
    have HB4 := Lib.hid (below_next HB3.out hb4)
    have HI34 : Hid (Ints w4 w4.heap.size A3 (P.map Int.ofNat)) := HI3.out.next hb4
    clear hI4 hb4 f0 f1
    have f0 := kept_box HB4.out 0 _ rfl
    have f1 := kept_box HB4.out 1 _ rfl
    go_wp2_with fail
    refine (Fewest_len _ _ ps _ _ _ HK.out HPE.out.2.2 HM.out (HP.out.next (below_next HB.out HB4.out))).mono ?_
    rintro e w5 ⟨rfl, hb5⟩
    have HB5 := Lib.hid (below_next HB4.out hb5)
    have HB45 := Lib.hid hb5
    clear hb5 f0 f1
    have f0 := kept_box HB5.out 0 _ rfl
    have f1 := kept_box HB5.out 1 _ rfl
    go_wp2_with fail
    refine (rFewest_len _ _ ps _ _ _ HK.out HPE.out.2.2 h10 (HP.out.next (below_next HB.out HB5.out))).mono ?_
    rintro e w6 ⟨rfl, hb6⟩
    have HB6 := Lib.hid (below_next HB5.out hb6)
    have HB46 := Lib.hid (below_next HB45.out hb6)
    clear hb6 f0 f1
    go_wp2_with fail
    refine (same_eq A3 A4 c3 c4 P _ hPl (HI34.out.next HB46.out) (HI4.out.next HB46.out)).mono ?_
    rintro e w7 ⟨rfl, hb7⟩
    go_wp2
    go_ret
    exact ⟨rfl, below_next (below_next HB.out HB6.out) hb7⟩
  · go_enter Try.func5, Try.ntmps5
    go_wp2_with fail
    refine (bawake_any _).mono ?_
    rintro e w1 ⟨rfl, hb1⟩
    go_wp2
    go_ret
    exact ⟨rfl, below_next HB.out hb1⟩
end Go.Proofs.Ytogkjaohphnflaa
