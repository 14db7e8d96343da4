/- The pieces of the example, and that the example holds. -/
import Derived.Test.YtdmcddhepgodhaaRefTotal
namespace Go.Proofs.Ytdmcddhepgodhaa
open Go.RowKit
def threePs : List Pc := [⟨400, 0, 0⟩, ⟨400, 100, 0⟩, ⟨400, 100, 0⟩]
def PiecesMade (ps : List Pc) (w : World) (e : Ending) (w' : World) : Prop := ∃ b, e = .returned (.slice (some ⟨b, 0, none⟩) ps.length ps.length) ∧ Pcs w' w'.heap.size (some ⟨b, 0, none⟩) ps ∧ Below w.heap.size w w'
theorem cell_made (w : World) (cs : Array Value) (t : TypeId) (i : Nat) : (w.alloc (.cells cs t)).cell? ⟨w.heap.size, i, none⟩ = cs[i]? := cell_of_row _ _ _ cs t (0, 0) (World.alloc_heap_new w _)
/-- A block's cells, whatever has come behind it. -/
theorem kept_box {w W : World} {cs : Array Value} {t : TypeId} (hb : Below (w.alloc (.cells cs t)).heap.size (w.alloc (.cells cs t)) W) (k : Nat) (v : Value) (hk : cs[k]? = some v) : W.cell? ⟨w.heap.size, k, none⟩ = some v :=
  (hb.cell (p := ⟨w.heap.size, k, none⟩) (by simp)).trans ((cell_made w cs t k).trans hk)
set_option maxHeartbeats 2000000 in
theorem three_any (w : World) : Calls Try.prog 19 #[] w (PiecesMade threePs w) := by
  go_enter Try.func19, Try.ntmps19
  go_wp2
  go_ret
  refine ⟨w.heap.size, rfl, fun _ => ⟨_, _, rfl, by simp, fun k hk => ?_⟩, (Below.refl _ _).alloc (Nat.le_refl _) _⟩
  rw [cell_made, cell_made, cell_made]
  match k, hk with
  | 0, _ => exact ⟨rfl, rfl, rfl⟩
  | 1, _ => exact ⟨rfl, rfl, rfl⟩
  | 2, _ => exact ⟨rfl, rfl, rfl⟩
theorem three_line : lineN threePs 0 2 1000 = 200 ∧ lineE threePs 0 2 1000 = 0 ∧ validB threePs = true := by decide +kernel
theorem Line_at {n' e' : Int} (A : Option Addr) (c : Nat) (ps : List Pc) (i j wd : Int) (w : World) (hn : lineN ps i j wd = n') (he : lineE ps i j wd = e') (hm : ps.length ≤ lenMax) (hP : Pcs w w.heap.size A ps) :
    Calls Try.prog 12 #[.slice A ps.length c, .int .i64 i, .int .i64 j, .int .i64 wd] w fun e w' => e = .returned (.tuple #[.int .i64 n', .int .i64 e']) ∧ Below w.heap.size w w' := by
  rw [← hn, ← he]; exact Line_any A c ps i j wd w hm hP
set_option maxHeartbeats 2000000 in
theorem awake_any (w : World) : Calls Try.prog 9 #[] w fun e w' => e = .returned (.bool true) ∧ Below w.heap.size w w' := by
  go_enter Try.func9, Try.ntmps9
  go_wp2_with fail
  refine (three_any _).mono ?_
  rintro e w1 ⟨b1, rfl, hp1, hb1⟩
  go_wp2_with fail
  refine (Line_at _ _ threePs _ _ _ _ three_line.1 three_line.2.1 (by decide) hp1).mono ?_
  rintro e w2 ⟨rfl, hb2⟩
  go_wp2_with fail
  refine (three_any _).mono ?_
  rintro e w3 ⟨b3, rfl, hp3, hb3⟩
  go_wp2_with fail
  refine (valid_at _ _ threePs _ three_line.2.2 (by decide) hp3).mono ?_
  rintro e w4 ⟨rfl, hb4⟩
  go_wp2
  go_ret
  exact ⟨rfl, below_next (below_next (below_next hb1 hb2) hb3) hb4⟩
end Go.Proofs.Ytdmcddhepgodhaa
