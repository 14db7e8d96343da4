/- The walk of BreakerLines. -/
import Derived.Test.YtogkjaohphnflaaRefBest
namespace Go.Proofs.Ytogkjaohphnflaa
open Go.RowKit
theorem rLines_is {P : List Nat} {t E : Int} (A : Option Addr) (c : Nat) (ps : List Pc) (wd ind k : Int) (w : World) (h1 : linesP ps wd ind k = P) (h2 : linesN ps wd ind k = t) (h3 : linesE ps wd ind k = E) (hm : ps.length ≤ 10) (hP : Pcs w w.heap.size A ps) :
    Calls Try.prog 20 #[.slice A ps.length c, .int .i64 wd, .int .i64 ind, .int .i64 k] w (LinesTo P t E w) := by
  rw [← h1, ← h2, ← h3]; exact rLines_any A c ps wd ind k w hm hP
theorem linesP_le (ps : List Pc) (wd ind k : Int) : (linesP ps wd ind k).length ≤ ps.length := by
  cases hp : parB ps wd ind with
  | true => exact (linesP_len hp k).1
  | false =>
    have e3 : linesE ps wd ind k = 1 := by unfold linesE; rw [if_neg (by rw [hp]; simp)]
    have e1 : linesP ps wd ind k = [] := by unfold linesP; rw [e3]; rfl
    rw [e1]
    exact Nat.zero_le _
set_option maxHeartbeats 1000000 in
theorem breakerLines_walk (A : Option Addr) (c : Nat) (ps : List Pc) (wd ind ln : Int) (w : World) (hm : ps.length ≤ lenMax) (hP : Pcs w w.heap.size A ps) :
    Calls Try.prog 6 #[.slice A ps.length c, .agg #[.int .i64 wd, .int .i64 ind, .int .i64 ln]] w fun e w' => e = .returned (.bool true) ∧ Below w.heap.size w w' := by
  have hm' : ps.length ≤ 9223372036854775807 := hm
  have HM := Lib.hid hm
  have HP := Lib.hid hP
  clear hm hP
  have HB : Hid (Below w.heap.size w (w.alloc (.cells #[.int .i64 wd, .int .i64 ind, .int .i64 ln] 24))) := (Below.refl _ _).alloc (Nat.le_refl _) _
  by_cases h10 : ps.length ≤ 10
  · have hdec : decide ((10 : Int) < (ps.length : Int)) = false := decide_eq_false (by omega)
    obtain ⟨P, hP1⟩ : ∃ P, linesP ps wd ind ln = P := ⟨_, rfl⟩
    obtain ⟨t, ht1⟩ : ∃ t, linesN ps wd ind ln = t := ⟨_, rfl⟩
    obtain ⟨E, hE1⟩ : ∃ E, linesE ps wd ind ln = E := ⟨_, rfl⟩
    have hPl : P.length ≤ 64 := by have := linesP_le ps wd ind ln; rw [hP1] at this; omega
    have HPE := Lib.hid (And.intro hP1 (And.intro ht1 hE1))
    clear hP1 ht1 hE1
    go_enter Try.func6, Try.ntmps6
    go_wp2_with fail
    refine (bawake_any _).mono ?_
    rintro e w1 ⟨rfl, hb1⟩
    have f0 := kept_box hb1 0 _ rfl
    have f1 := kept_box hb1 1 _ rfl
    have f2 := kept_box hb1 2 _ rfl
    have HB1 := Lib.hid hb1
    clear hb1
    go_wp2_with fail
    refine (Lines_is _ _ ps _ _ _ _ HPE.out.1 HPE.out.2.1 HPE.out.2.2 HM.out (HP.out.next (below_next HB.out HB1.out))).mono ?_
    rintro e w2 ⟨⟨A2, c2, rfl, hI2⟩, hb2⟩
    have HI2 := Lib.hid hI2
    have HB2 := Lib.hid (below_next HB1.out hb2)
    clear hI2 hb2 f0 f1 f2
    have f0 := kept_box HB2.out 0 _ rfl
    have f1 := kept_box HB2.out 1 _ rfl
    have f2 := kept_box HB2.out 2 _ rfl
    go_wp2_with fail
    refine (rLines_is _ _ ps _ _ _ _ HPE.out.1 HPE.out.2.1 HPE.out.2.2 h10 (HP.out.next (below_next HB.out HB2.out))).mono ?_
    rintro e w3 ⟨⟨A3, c3, rfl, hI3⟩, hb3⟩
    have HI3 := Lib.hid hI3
    have HI2' : Hid (Ints w3 w3.heap.size A2 (P.map Int.ofNat)) := HI2.out.next hb3
    have HB3 := Lib.hid (below_next HB2.out hb3)
    clear hI3 hb3 f0 f1 f2
    go_wp2_with fail
    refine (same_eq A2 A3 c2 c3 P _ hPl HI2'.out HI3.out).mono ?_
    rintro e w4 ⟨rfl, hb4⟩
    go_wp2
    go_ret
    exact ⟨rfl, below_next (below_next HB.out HB3.out) hb4⟩
  · go_enter Try.func6, Try.ntmps6
    go_wp2_with fail
    refine (bawake_any _).mono ?_
    rintro e w1 ⟨rfl, hb1⟩
    go_wp2
    go_ret
    exact ⟨rfl, below_next HB.out hb1⟩
end Go.Proofs.Ytogkjaohphnflaa
