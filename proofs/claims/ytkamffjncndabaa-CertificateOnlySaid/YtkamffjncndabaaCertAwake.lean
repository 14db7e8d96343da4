/- The example of the document. -/
import Derived.Test.YtkamffjncndabaaCertCheck
import Derived.Test.YtkamffjncndabaaCertRMake
import Derived.Test.YtkamffjncndabaaCertSame
namespace Go.Proofs.Ytkamffjncndabaa
open Go.RowKit
def fourPs : List Pc := [⟨400, 0, 0⟩, ⟨400, 100, 0⟩, ⟨400, 100, 0⟩, ⟨400, 100, 0⟩]
def PiecesMade (ps : List Pc) (w : World) (e : Ending) (w' : World) : Prop := ∃ b, e = .returned (.slice (some ⟨b, 0, none⟩) ps.length ps.length) ∧ Pcs w' w'.heap.size (some ⟨b, 0, none⟩) ps ∧ Below w.heap.size w w'
set_option maxHeartbeats 2000000 in
theorem example_any (w : World) : Calls Try.prog 23 #[] w (PiecesMade fourPs w) := by
  go_enter Try.func23, Try.ntmps23
  go_wp2
  go_ret
  refine ⟨w.heap.size, rfl, fun _ => ⟨_, _, rfl, by simp, fun k hk => ?_⟩, (Below.refl _ _).alloc (Nat.le_refl _) _⟩
  rw [cell_made, cell_made, cell_made]
  match k, hk with
  | 0, _ => exact ⟨rfl, rfl, rfl⟩
  | 1, _ => exact ⟨rfl, rfl, rfl⟩
  | 2, _ => exact ⟨rfl, rfl, rfl⟩
  | 3, _ => exact ⟨rfl, rfl, rfl⟩
theorem four_pot : potL fourPs 1000 0 = [300, 300, 100, 100, 0] := by decide +kernel
theorem four_ok : parB fourPs 1000 0 = true ∧ totE fourPs [0, 2] 1000 0 = 0 ∧ totN fourPs [0, 2] 1000 0 = 300 := by decide +kernel
theorem four_sound : SoundP fourPs 1000 0 [300, 300, 100, 100, 0] := by
  rw [← four_pot]
  exact sound_least (parB_iff.1 four_ok.1).1 (parB_iff.1 four_ok.1).2
theorem four_check : CheckP fourPs 1000 0 [0, 2] [300, 300, 100, 100, 0] := by
  have h := tight_of_least four_ok.1 four_ok.2.1 (by
    rw [four_ok.2.2]
    have := potL_at fourPs 1000 0 (k := 0) (Nat.zero_le _)
    rw [four_pot] at this
    exact this)
  rw [four_pot] at h
  exact ⟨four_ok.1, four_sound, h⟩
theorem ints_lit (w : World) (l : List Int) (t : TypeId) (cs : Array Value) (h : ∀ k, k < l.length → cs[k]? = some (.int .i64 (lAt l k))) : Ints (w.alloc (.cells cs t)) (w.alloc (.cells cs t)).heap.size (some ⟨w.heap.size, 0, none⟩) l :=
  fun _ => ⟨_, _, rfl, by simp, fun k hk => by rw [cell_made, Nat.zero_add]; exact h k hk⟩
theorem Make_is {l : List Int} (A : Option Addr) (c : Nat) (ps : List Pc) (wd ind : Int) (w : World) (hp : parB ps wd ind = true) (hl : potL ps wd ind = l) (hP : Pcs w w.heap.size A ps) :
    Calls Try.prog 11 #[.slice A ps.length c, .int .i64 wd, .int .i64 ind] w (MakeTo l 0 w) := by
  rw [← hl]; exact Make_yes A c ps wd ind w hp hP
set_option maxHeartbeats 2000000 in
theorem cawake_any (w : World) : Calls Try.prog 10 #[] w fun e w' => e = .returned (.bool true) ∧ Below w.heap.size w w' := by
  go_enter Try.func10, Try.ntmps10
  go_wp2_with fail
  refine (example_any _).mono ?_
  rintro e w1 ⟨b1, rfl, hp1, hb1⟩
  go_wp2_with fail
  refine (Make_is _ _ fourPs _ _ _ four_ok.1 four_pot hp1).mono ?_
  rintro e w2 ⟨⟨A2, c2, rfl, hI2⟩, hb2⟩
  have HB2 := Lib.hid (below_next hb1 hb2)
  have HI2 := Lib.hid hI2
  clear hp1 hb1 hb2 hI2
  go_wp2_with fail
  refine (example_any _).mono ?_
  rintro e w3 ⟨b3, rfl, hp3, hb3⟩
  have HI3 := Lib.hid (HI2.out.next hb3)
  have HB3 := Lib.hid (below_next HB2.out hb3)
  clear hb3
  go_wp2_with fail
  refine (Bound_any (r := true) _ A2 _ c2 fourPs [300, 300, 100, 100, 0] _ _ _ (by decide) (by decide) hp3 HI3.out ⟨fun _ => ⟨four_ok.1, four_sound⟩, fun _ => rfl⟩).mono ?_
  rintro e w4 ⟨rfl, hb4⟩
  have HI4 := Lib.hid (HI3.out.next hb4)
  have HB4 := Lib.hid (below_next HB3.out hb4)
  have hl0 : lAt [300, 300, 100, 100, 0] 0 = 300 := rfl
  simp only [cond_true, hl0]
  clear hb4 hp3
  go_wp2_with fail
  refine (same_len (r := true) (n := 5) (m := 5) A2 _ c2 _ [300, 300, 100, 100, 0] [300, 300, 100, 100, 0] _ rfl rfl (by decide) (by decide) (by decide) (HI4.out.next ((Below.refl _ _).alloc (Nat.le_refl _) _)) (ints_lit w4 [300, 300, 100, 100, 0] _ _ (fun k hk => by
    match k, hk with
    | 0, _ => rfl
    | 1, _ => rfl
    | 2, _ => rfl
    | 3, _ => rfl
    | 4, _ => rfl))).mono ?_
  rintro e w5 ⟨rfl, hb5⟩
  have HB45 := Lib.hid (((Below.refl w4.heap.size w4).alloc (Nat.le_refl _) _).trans (hb5.mono (by simp)))
  have HI5 := Lib.hid (HI4.out.next HB45.out)
  have HB5 := Lib.hid (below_next HB4.out HB45.out)
  clear hb5
  go_wp2_with fail
  refine (example_any _).mono ?_
  rintro e w6 ⟨b6, rfl, hp6, hb6⟩
  have HI6 := Lib.hid (HI5.out.next hb6)
  have HB6 := Lib.hid (below_next HB5.out hb6)
  have HP6 := Lib.hid hp6
  clear hb6 hp6
  go_wp2_with fail
  refine (Check_any (r := true) _ A2 _ _ c2 2 fourPs [0, 2] [300, 300, 100, 100, 0] _ _ _ (by decide) (by decide) (by decide) (HP6.out.next ((Below.refl _ _).alloc (Nat.le_refl _) _)) (ints_lit w6 [0, 2] _ _ (fun k hk => by
    match k, hk with
    | 0, _ => rfl
    | 1, _ => rfl)) (HI6.out.next ((Below.refl _ _).alloc (Nat.le_refl _) _)) ⟨fun _ => four_check, fun _ => rfl⟩).mono ?_
  rintro e w7 ⟨rfl, hb7⟩
  go_wp2
  go_ret
  exact ⟨rfl, below_next (below_next HB6.out ((Below.refl _ _).alloc (Nat.le_refl _) _)) hb7⟩
end Go.Proofs.Ytkamffjncndabaa
