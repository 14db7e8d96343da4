/- The example that each statement of the chapter begins with. -/
import Derived.Test.YtnhplbhjbpdcaaaGluSetAll
import Derived.Test.YtnhplbhjbpdcaaaGluSame
import Derived.Test.YtnhplbhjbpdcaaaGluRight
namespace Go.Proofs.Ytnhplbhjbpdcaaa
open Go.RowKit
/-- What Set answers, its numbers named. -/
theorem gset_at {L : List Int} {r x : Int} {n : Nat} (A : Option Addr) (c : Nat) (l : List Gl) (wd : Int) (w : World) (hL : setL l wd = L) (hr : setR l wd = r) (hx : errV l wd = x) (hn : L.length = n) (hm : l.length ≤ lenMax) (hP : Gls w w.heap.size A l) :
    Calls Try.prog 20 #[.slice A l.length c, .int .i64 wd] w fun e w' => (∃ A' c', e = .returned (.tuple #[.slice A' n c', .int .i64 r, .int .i64 x]) ∧ Ints w' w'.heap.size A' L) ∧ Below w.heap.size w w' := by
  subst hn
  rw [← hL, ← hr, ← hx]
  exact gset_any A c l wd w hm hP
theorem rset_at {L : List Int} {r x : Int} {n : Nat} (A : Option Addr) (c : Nat) (l : List Gl) (wd : Int) (w : World) (hL : setL l wd = L) (hr : setR l wd = r) (hx : errV l wd = x) (hn : L.length = n) (hm : l.length ≤ lenMax) (hP : Gls w w.heap.size A l) :
    Calls Try.prog 21 #[.slice A l.length c, .int .i64 wd] w fun e w' => (∃ A' c', e = .returned (.tuple #[.slice A' n c', .int .i64 r, .int .i64 x]) ∧ Ints w' w'.heap.size A' L) ∧ Below w.heap.size w w' := by
  subst hn
  rw [← hL, ← hr, ← hx]
  exact rset_any A c l wd w hm hP
theorem gbad_at {b x : Int} (A : Option Addr) (c : Nat) (l : List Gl) (wd : Int) (w : World) (hb : badV l wd = b) (hx : errV l wd = x) (hm : l.length ≤ lenMax) (hP : Gls w w.heap.size A l) :
    Calls Try.prog 23 #[.slice A l.length c, .int .i64 wd] w fun e w' => e = .returned (.tuple #[.int .i64 b, .int .i64 x]) ∧ Below w.heap.size w w' := by
  rw [← hb, ← hx]; exact gbad_any A c l wd w hm hP
theorem rbad_at {b x : Int} (A : Option Addr) (c : Nat) (l : List Gl) (wd : Int) (w : World) (hb : badV l wd = b) (hx : errV l wd = x) (hm : l.length ≤ lenMax) (hP : Gls w w.heap.size A l) :
    Calls Try.prog 24 #[.slice A l.length c, .int .i64 wd] w fun e w' => e = .returned (.tuple #[.int .i64 b, .int .i64 x]) ∧ Below w.heap.size w w' := by
  rw [← hb, ← hx]; exact rbad_any A c l wd w hm hP
theorem cell_made (w : World) (cs : Array Value) (t : TypeId) (i : Nat) : (w.alloc (.cells cs t)).cell? ⟨w.heap.size, i, none⟩ = cs[i]? := cell_of_row _ _ _ cs t (0, 0) (World.alloc_heap_new w _)
def twoG : List Gl := [⟨10, 1, 0, 0⟩, ⟨10, 2, 0, 0⟩]
theorem two_set : setL twoG 25 = [11, 14] ∧ setR twoG 25 = 0 ∧ errV twoG 25 = 0 ∧ badV twoG 25 = 457 ∧ VG twoG ∧ natZ twoG = 20 ∧ strZ twoG 0 = 3 := by decide +kernel
theorem gls_two (w : World) (t : TypeId) : Gls (w.alloc (.cells #[.int .i64 10, .int .i64 1, .int .i64 0, .int .i64 0, .int .i64 10, .int .i64 2, .int .i64 0, .int .i64 0] t)) (w.heap.size + 1) (some ⟨w.heap.size, 0, none⟩) twoG :=
  fun _ => ⟨_, _, rfl, by omega, fun k hk => by
    have hk2 : k < 2 := hk
    rw [cell_made, cell_made, cell_made, cell_made]
    match k, hk2 with
    | 0, _ => exact ⟨rfl, rfl, rfl, rfl⟩
    | 1, _ => exact ⟨rfl, rfl, rfl, rfl⟩⟩
set_option maxHeartbeats 1000000 in
theorem gawake_any (w : World) : Calls Try.prog 11 #[] w fun e w' => e = .returned (.bool true) ∧ Below w.heap.size w w' := by
  have hm : twoG.length ≤ lenMax := by decide
  obtain ⟨t1, t2, t3, t4, t5, t6, t7⟩ := two_set
  have HT := Lib.hid (And.intro t1 (And.intro t2 (And.intro t3 (And.intro t4 (And.intro t5 (And.intro t6 t7))))))
  have HM := Lib.hid hm
  clear t1 t2 t3 t4 t5 t6 t7 hm
  have HC1 := fun X hP => gset_at (some ⟨w.heap.size, 0, none⟩) 2 twoG 25 X HT.out.1 HT.out.2.1 HT.out.2.2.1 rfl HM.out hP
  have HC2 := fun X hP => gbad_at (some ⟨w.heap.size, 0, none⟩) 2 twoG 25 X HT.out.2.2.2.1 HT.out.2.2.1 HM.out hP
  have HC3 := fun X hP => gvalid_any (r := true) (some ⟨w.heap.size, 0, none⟩) 2 twoG X HM.out hP (yes_iff HT.out.2.2.2.2.1)
  have HC4 := fun X hP => gnat_any (some ⟨w.heap.size, 0, none⟩) 2 twoG X HT.out.2.2.2.2.2.1 HM.out hP
  have HC5 := fun X hP => gstr_any (some ⟨w.heap.size, 0, none⟩) 2 twoG 0 X HT.out.2.2.2.2.2.2 HM.out hP
  go_enter Try.func11, Try.ntmps11
  go_wp2_with fail
  have hg := gls_two w 36
  have hB0 : Below w.heap.size w (w.alloc (.cells #[.int .i64 10, .int .i64 1, .int .i64 0, .int .i64 0, .int .i64 10, .int .i64 2, .int .i64 0, .int .i64 0] 36)) := one_below _ _
  have hs0 : (w.alloc (.cells #[.int .i64 10, .int .i64 1, .int .i64 0, .int .i64 0, .int .i64 10, .int .i64 2, .int .i64 0, .int .i64 0] 36)).heap.size = w.heap.size + 1 := by simp
  generalize (w.alloc (.cells #[.int .i64 10, .int .i64 1, .int .i64 0, .int .i64 0, .int .i64 10, .int .i64 2, .int .i64 0, .int .i64 0] 36)) = W0 at hg hB0 hs0 ⊢
  rw [← hs0] at hg
  have HG := Lib.hid hg
  have HB0 := Lib.hid hB0
  clear hg hB0 hs0
  refine (HC1 _ HG.out).mono ?_
  rintro e w1 ⟨⟨A', c', rfl, hI⟩, hb1⟩
  obtain ⟨b, off, rfl, hb, hc⟩ := hI (by decide)
  have hc0 : w1.cell? ⟨b, off + 0, none⟩ = some (.int .i64 11) := hc 0 (by decide)
  have hc1 : w1.cell? ⟨b, off + 1, none⟩ = some (.int .i64 14) := hc 1 (by decide)
  have HC := Lib.hid (And.intro hb (And.intro hc0 hc1))
  have HB1 := Lib.hid hb1
  clear hI hb hc hc0 hc1 hb1
  go_wp2_with fail
  refine (HC2 _ (HG.out.next HB1.out)).mono ?_
  rintro e w2 ⟨rfl, hb2⟩
  have e0 := (hb2.cell (p := ⟨b, off + 0, none⟩) HC.out.1).trans HC.out.2.1
  rw [Nat.add_zero] at e0
  have e1 := (hb2.cell (p := ⟨b, off + 1, none⟩) HC.out.1).trans HC.out.2.2
  have HB2 := Lib.hid (below_next HB1.out hb2)
  clear hb2
  go_wp2_with fail
  refine (HC3 _ (HG.out.next HB2.out)).mono ?_
  rintro e w3 ⟨rfl, hb3⟩
  have HB3 := Lib.hid (below_next HB2.out hb3)
  clear hb3
  go_wp2_with fail
  refine (HC4 _ (HG.out.next HB3.out)).mono ?_
  rintro e w4 ⟨rfl, hb4⟩
  have HB4 := Lib.hid (below_next HB3.out hb4)
  clear hb4
  go_wp2_with fail
  refine (HC5 _ (HG.out.next HB4.out)).mono ?_
  rintro e w5 ⟨rfl, hb5⟩
  go_wp2
  go_ret
  exact ⟨rfl, below_next HB0.out (below_next HB4.out hb5)⟩
end Go.Proofs.Ytnhplbhjbpdcaaa
