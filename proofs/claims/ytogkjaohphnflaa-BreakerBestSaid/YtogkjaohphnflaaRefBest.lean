/- The reference's Best, Lines and Fewest. -/
import Derived.Test.YtogkjaohphnflaaRefLaw
namespace Go.Proofs.Ytogkjaohphnflaa
open Go.RowKit
theorem All_no (A : Option Addr) (c : Nat) (ps : List Pc) (wd ind : Int) (w : World) (hp : parB ps wd ind = false) (hm : ps.length ≤ lenMax) (hP : Pcs w w.heap.size A ps) :
    Calls Try.prog 29 #[.slice A ps.length c, .int .i64 wd, .int .i64 ind] w fun e w' => e = .returned (.tuple #[.slice none 0 0, .int .i64 1]) ∧ Below w.heap.size w w' := by
  have HM := Lib.hid hm
  have HP := Lib.hid hP
  clear hm hP
  cases hv : validB ps
  · have HV := Lib.hid hv
    clear hv hp
    go_enter Try.func29, Try.ntmps29
    go_wp2_with fail
    refine (rvalid_at _ _ ps _ HV.out HM.out HP.out).mono ?_
    rintro e w1 ⟨rfl, hb1⟩
    go_wp2
    go_ret2
    exact ⟨rfl, hb1⟩
  · have HV := Lib.hid hv
    have HF : Hid (fitsB wd ind = false) := by
      show _ = _
      unfold parB at hp
      rw [hv] at hp
      exact hp
    clear hv hp
    go_enter Try.func29, Try.ntmps29
    go_wp2_with fail
    refine (rvalid_at _ _ ps _ HV.out HM.out HP.out).mono ?_
    rintro e w1 ⟨rfl, hb1⟩
    go_wp2_with fail
    refine (rfits_at _ _ _ HF.out).mono ?_
    rintro e w2 ⟨rfl, hb2⟩
    go_wp2
    go_ret2
    exact ⟨rfl, below_next hb1 hb2⟩
theorem rss_at {W : World} {bR n : Nat} {B : Nat → Rs} (h : Rss W bR n B) {k : Nat} (hk : k ≤ n) :
    ∃ A c, W.cell? ⟨bR, k * 3, none⟩ = some (.slice A (B k).st.length c) ∧ W.cell? ⟨bR, k * 3 + 1, none⟩ = some (.int .i64 (B k).tot) ∧ W.cell? ⟨bR, k * 3 + 2, none⟩ = some (.bool (B k).fd) ∧ Ints W W.heap.size A ((B k).st.map Int.ofNat) := by
  obtain ⟨cs, h1, h2⟩ := h
  obtain ⟨A, c, e0, e1, e2, e3⟩ := h2 k hk
  exact ⟨A, c, blk_cell h1 _ _ e0, blk_cell h1 _ _ e1, blk_cell h1 _ _ e2, e3.ints⟩
/-- What Best answers: the starts, the demerits, the error. -/
def bestA (ps : List Pc) (wd ind : Int) : List Nat := if parB ps wd ind = true then bestP ps wd ind else []
def bestN (ps : List Pc) (wd ind : Int) : Int := if parB ps wd ind = true then (bestT ps wd ind).dm else 0
def bestE (ps : List Pc) (wd ind : Int) : Int := if parB ps wd ind = true then 0 else 1
set_option maxHeartbeats 1000000 in
theorem rBest_any (A : Option Addr) (c : Nat) (ps : List Pc) (wd ind : Int) (w : World) (hm : ps.length ≤ 10) (hP : Pcs w w.heap.size A ps) :
    Calls Try.prog 16 #[.slice A ps.length c, .int .i64 wd, .int .i64 ind] w (LinesTo (bestA ps wd ind) (bestN ps wd ind) (bestE ps wd ind) w) := by
  have HP := Lib.hid hP
  clear hP
  cases hp : parB ps wd ind
  · have HC := Lib.hid (All_no A c ps wd ind w hp (by unfold lenMax; omega) HP.out)
    have e1 : bestA ps wd ind = [] := by unfold bestA; rw [if_neg (by rw [hp]; simp)]
    have e2 : bestN ps wd ind = 0 := by unfold bestN; rw [if_neg (by rw [hp]; simp)]
    have e3 : bestE ps wd ind = 1 := by unfold bestE; rw [if_neg (by rw [hp]; simp)]
    rw [e1, e2, e3]
    clear e1 e2 e3 hp
    go_enter Try.func16, Try.ntmps16
    go_wp2_with fail
    refine HC.out.mono ?_
    rintro e w1 ⟨rfl, hb1⟩
    go_wp2
    go_ret3
    exact ⟨⟨none, 0, rfl, ints_nil _ _ _⟩, hb1⟩
  · have HC := Lib.hid (All_yes A c ps wd ind w hp hm HP.out)
    have e1 : bestA ps wd ind = (allR ps wd ind 0).st := by unfold bestA; rw [if_pos hp, (all_best hp).1]
    have e2 : bestN ps wd ind = (allR ps wd ind 0).tot := by unfold bestN; rw [if_pos hp, (all_best hp).2]
    have e3 : bestE ps wd ind = 0 := by unfold bestE; rw [if_pos hp]
    rw [e1, e2, e3]
    clear e1 e2 e3 hp
    go_enter Try.func16, Try.ntmps16
    go_wp2_with fail
    refine HC.out.mono ?_
    rintro e w1 ⟨⟨bR, hbR, rfl, hR⟩, hb1⟩
    obtain ⟨A1, c1, x0, x1, _, xI⟩ := rss_at hR (Nat.zero_le _)
    rw [show 0 * 3 = 0 by omega] at x0 x1
    rw [Nat.zero_add] at x1
    have HX := Lib.hid xI
    have HB := Lib.hid hb1
    clear hR xI hb1 hbR
    obtain ⟨x, hx⟩ : ∃ x, allF ps wd ind (2 ^ (ps.length - 1)) 0 = x := ⟨_, rfl⟩
    rw [hx] at x0 x1 HX
    have HXX : Hid (allR ps wd ind 0 = x) := hx
    clear hx
    go_wp2_with fail
    go_quiet (fail)
    go_wp2
    go_ret3
    exact ⟨⟨A1, c1, by rw [HXX.out]; rfl, by rw [HXX.out]; exact HX.out.next (below_drewN (Below.refl _ _) _)⟩, below_drewN HB.out _⟩
set_option maxHeartbeats 1000000 in
theorem rLines_any (A : Option Addr) (c : Nat) (ps : List Pc) (wd ind k : Int) (w : World) (hm : ps.length ≤ 10) (hP : Pcs w w.heap.size A ps) :
    Calls Try.prog 20 #[.slice A ps.length c, .int .i64 wd, .int .i64 ind, .int .i64 k] w (LinesTo (linesP ps wd ind k) (linesN ps wd ind k) (linesE ps wd ind k) w) := by
  have HP := Lib.hid hP
  clear hP
  cases hp : parB ps wd ind
  · have HC := Lib.hid (All_no A c ps wd ind w hp (by unfold lenMax; omega) HP.out)
    have e3 : linesE ps wd ind k = 1 := by unfold linesE; rw [if_neg (by rw [hp]; simp)]
    have e1 : linesP ps wd ind k = [] := by unfold linesP; rw [e3]; rfl
    have e2 : linesN ps wd ind k = 0 := by unfold linesN; rw [e3]; rfl
    rw [e1, e2, e3]
    clear e1 e2 e3 hp
    go_enter Try.func20, Try.ntmps20
    go_wp2_with fail
    refine HC.out.mono ?_
    rintro e w1 ⟨rfl, hb1⟩
    go_wp2
    go_ret3
    exact ⟨⟨none, 0, rfl, ints_nil _ _ _⟩, hb1⟩
  · have HC := Lib.hid (All_yes A c ps wd ind w hp hm HP.out)
    by_cases hk : 1 ≤ k ∧ k ≤ (ps.length : Int)
    · obtain ⟨n, rfl⟩ : ∃ n : Nat, k = (n : Int) := ⟨k.toNat, by omega⟩
      have hn1 : 1 ≤ n := by omega
      have hn2 : n ≤ ps.length := by omega
      clear hk
      have hE := linesE_at hp n
      rw [if_pos ⟨hn1, hn2⟩] at hE
      obtain ⟨c1, c2⟩ := all_count hp hn1
      have b1 : (n : Int) < (ps.length : Int) + 1 := by omega
      have b2 : n < ps.length + 1 := by omega
      cases ht : (kT ps wd ind n 0).th
      · rw [ht] at hE c1
        have e3 : linesE ps wd ind n = 8 := hE
        have e1 : linesP ps wd ind n = [] := by unfold linesP; rw [e3]; rfl
        have e2 : linesN ps wd ind n = 0 := by unfold linesN; rw [e3]; rfl
        rw [e1, e2, e3]
        have C1 := Lib.hid c1
        clear e1 e2 e3 hE c1 c2 ht hp
        go_enter Try.func20, Try.ntmps20
        go_wp2_with fail
        refine HC.out.mono ?_
        rintro e w1 ⟨⟨bR, hbR, rfl, hR⟩, hb1⟩
        obtain ⟨A1, c1, x0, x1, x2, xI⟩ := rss_at hR hn2
        have hfd : (allF ps wd ind (2 ^ (ps.length - 1)) n).fd = false := C1.out
        rw [hfd] at x2
        have HB := Lib.hid hb1
        clear hR xI hb1 hbR hfd x0 x1
        go_wp2
        go_ret3
        exact ⟨⟨none, 0, rfl, ints_nil _ _ _⟩, HB.out⟩
      · rw [ht] at hE c1
        have e3 : linesE ps wd ind n = 0 := hE
        have e1 : linesP ps wd ind n = (allR ps wd ind n).st := by unfold linesP; rw [if_pos e3, Int.toNat_natCast, (c2 ht).1]
        have e2 : linesN ps wd ind n = (allR ps wd ind n).tot := by unfold linesN; rw [if_pos e3, Int.toNat_natCast, (c2 ht).2]
        rw [e1, e2, e3]
        have C1 := Lib.hid c1
        clear e1 e2 e3 hE c1 c2 ht hp
        go_enter Try.func20, Try.ntmps20
        go_wp2_with fail
        refine HC.out.mono ?_
        rintro e w1 ⟨⟨bR, hbR, rfl, hR⟩, hb1⟩
        obtain ⟨A1, c1, x0, x1, x2, xI⟩ := rss_at hR hn2
        have hfd : (allF ps wd ind (2 ^ (ps.length - 1)) n).fd = true := C1.out
        rw [hfd] at x2
        have HX := Lib.hid xI
        have HB := Lib.hid hb1
        clear hR xI hb1 hbR hfd
        obtain ⟨x, hx⟩ : ∃ x, allF ps wd ind (2 ^ (ps.length - 1)) n = x := ⟨_, rfl⟩
        rw [hx] at x0 x1 HX
        have HXX : Hid (allR ps wd ind n = x) := hx
        clear hx
        go_wp2_with fail
        go_quiet (fail)
        go_wp2
        go_ret3
        exact ⟨⟨A1, c1, by rw [HXX.out]; rfl, by rw [HXX.out]; exact HX.out.next (below_drewN (Below.refl _ _) _)⟩, below_drewN HB.out _⟩
    · have e3 : linesE ps wd ind k = 8 := by unfold linesE; rw [if_pos hp, if_neg hk]
      have e1 : linesP ps wd ind k = [] := by unfold linesP; rw [e3]; rfl
      have e2 : linesN ps wd ind k = 0 := by unfold linesN; rw [e3]; rfl
      rw [e1, e2, e3]
      clear e1 e2 e3 hp
      have hk' : k < 1 ∨ (1 ≤ k ∧ (ps.length : Int) + 1 ≤ k) := by omega
      clear hk
      rcases hk' with hk | ⟨hk1, hk2⟩
      all_goals
        go_enter Try.func20, Try.ntmps20
        go_wp2_with fail
        refine HC.out.mono ?_
        rintro e w1 ⟨⟨bR, hbR, rfl, hR⟩, hb1⟩
        have HB := Lib.hid hb1
        clear hR hb1 hbR
        go_wp2
        go_ret3
        exact ⟨⟨none, 0, rfl, ints_nil _ _ _⟩, HB.out⟩
theorem rFewest_no (A : Option Addr) (c : Nat) (ps : List Pc) (wd ind : Int) (w : World) (hp : parB ps wd ind = false) (hm : ps.length ≤ lenMax) (hP : Pcs w w.heap.size A ps) :
    Calls Try.prog 18 #[.slice A ps.length c, .int .i64 wd, .int .i64 ind] w fun e w' => e = .returned (.tuple #[.int .i64 0, .int .i64 1]) ∧ Below w.heap.size w w' := by
  have HC := Lib.hid (All_no A c ps wd ind w hp hm hP)
  clear hp hm hP
  go_enter Try.func18, Try.ntmps18
  go_wp2_with fail
  refine HC.out.mono ?_
  rintro e w1 ⟨rfl, hb1⟩
  go_wp2
  go_ret2
  exact ⟨rfl, hb1⟩
set_option maxHeartbeats 1000000 in
theorem rFewest_yes (A : Option Addr) (c : Nat) (ps : List Pc) (wd ind : Int) (w : World) (hp : parB ps wd ind = true) (hm : ps.length ≤ 10) (hP : Pcs w w.heap.size A ps) :
    Calls Try.prog 18 #[.slice A ps.length c, .int .i64 wd, .int .i64 ind] w fun e w' => e = .returned (.tuple #[.int .i64 (fewT ps.length (gG ps wd ind) 0 : Int), .int .i64 0]) ∧ Below w.heap.size w w' := by
  have HC := Lib.hid (All_yes A c ps wd ind w hp hm hP)
  obtain ⟨f1, f2, f3, f4⟩ := all_few hp
  obtain ⟨fw, hfw⟩ : ∃ fw, fewT ps.length (gG ps wd ind) 0 = fw := ⟨_, rfl⟩
  rw [hfw] at f1 f2 f3 f4 ⊢
  have F3 := Lib.hid f3
  have F4 := Lib.hid f4
  clear hp hP f3 f4 hfw
  go_enter Try.func18, Try.ntmps18
  go_wp2_with fail
  refine HC.out.mono ?_
  rintro e w1 ⟨⟨bR, hbR, rfl, hR⟩, hb1⟩
  have HR := Lib.hid hR
  have HB := Lib.hid hb1
  clear hR hb1 hbR
  go_wp2_with fail
  go_loopw [10] (fun q wr => ∃ k : Nat, 1 ≤ k ∧ k ≤ fw ∧ q = .int .i64 (k : Int) ∧ wr = w1) (fun q _ => fw - (intOf q).toNat)
  case atStart => exact ⟨1, Nat.le_refl _, f1, rfl, rfl⟩
  case round =>
    obtain ⟨k, hk1, hk2, rfl, rfl⟩ := hrel
    obtain ⟨A1, c1, _, _, x2, _⟩ := rss_at HR.out (show k ≤ ps.length by omega)
    have b1 : (k : Int) < (ps.length : Int) + 1 := by omega
    have b2 : k < ps.length + 1 := by omega
    by_cases hlt : k < fw
    · have hfd : (allF ps wd ind (2 ^ (ps.length - 1)) k).fd = false := F4.out k hk1 hlt
      rw [hfd] at x2
      clear hfd
      go_wp2
      go_roundw
      case rel => exact ⟨k + 1, by omega, by omega, by go_num, trivial⟩
      case measure => simp [intOf]; omega
    · obtain rfl : k = fw := by omega
      have hfd : (allF ps wd ind (2 ^ (ps.length - 1)) k).fd = true := F3.out
      rw [hfd] at x2
      clear hfd
      go_wp2
      go_ret2
      exact ⟨rfl, HB.out⟩
end Go.Proofs.Ytogkjaohphnflaa
