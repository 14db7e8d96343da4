/- The example, and the walk of BreakerWide. -/
import Derived.Test.YtogkjaohphnflaaBrkSame
namespace Go.Proofs.Ytogkjaohphnflaa
open Go.RowKit
theorem Best_is {P : List Nat} {t : Int} (A : Option Addr) (c : Nat) (ps : List Pc) (wd ind : Int) (w : World) (hv : parB ps wd ind = true) (hp : bestP ps wd ind = P) (ht : (bestT ps wd ind).dm = t) (hP : Pcs w w.heap.size A ps) :
    Calls Try.prog 12 #[.slice A ps.length c, .int .i64 wd, .int .i64 ind] w fun e w' =>
      (∃ A' c', e = .returned (.tuple #[.slice A' P.length c', .int .i64 t, .int .i64 0]) ∧ Ints w' w'.heap.size A' (P.map Int.ofNat)) ∧ Below w.heap.size w w' := by
  rw [← hp, ← ht]; exact Best_yes A c ps wd ind w (parB_iff.1 hv).1 (parB_iff.1 hv).2 hP
def fourPs : List Pc := [⟨400, 0, 0⟩, ⟨400, 100, 0⟩, ⟨400, 100, 0⟩, ⟨400, 100, 0⟩]
theorem four_best : bestP fourPs 1000 0 = [0, 2] ∧ (bestT fourPs 1000 0).dm = 300 ∧ parB fourPs 1000 0 = true := by decide +kernel
theorem ints_one (w : World) (t : TypeId) : Ints (w.alloc (.cells #[.int .i64 0] t)) (w.alloc (.cells #[.int .i64 0] t)).heap.size (some ⟨w.heap.size, 0, none⟩) [0] :=
  fun _ => ⟨_, _, rfl, by simp, fun k hk => by
    rw [cell_made]
    match k, hk with
    | 0, _ => rfl⟩
theorem ints_two (w : World) (t : TypeId) : Ints (w.alloc (.cells #[.int .i64 0, .int .i64 2] t)) (w.alloc (.cells #[.int .i64 0, .int .i64 2] t)).heap.size (some ⟨w.heap.size, 0, none⟩) [0, 2] :=
  fun _ => ⟨_, _, rfl, by simp, fun k hk => by
    rw [cell_made]
    match k, hk with
    | 0, _ => rfl
    | 1, _ => rfl⟩
set_option maxHeartbeats 1000000 in
theorem bawake_any (w : World) : Calls Try.prog 10 #[] w fun e w' => e = .returned (.bool true) ∧ Below w.heap.size w w' := by
  go_enter Try.func10, Try.ntmps10
  go_wp2_with fail
  have HC := fun X hP => Best_is (some ⟨w.heap.size, 0, none⟩) 4 fourPs 1000 0 X four_best.2.2 four_best.1 four_best.2.1 hP
  refine (HC _ (fun _ => ⟨_, _, rfl, by simp, fun k hk => ?_⟩)).mono ?_
  · rw [cell_made, cell_made, cell_made]
    match k, hk with
    | 0, _ => exact ⟨rfl, rfl, rfl⟩
    | 1, _ => exact ⟨rfl, rfl, rfl⟩
    | 2, _ => exact ⟨rfl, rfl, rfl⟩
    | 3, _ => exact ⟨rfl, rfl, rfl⟩
  rintro e w1 ⟨⟨A', c', rfl, hI⟩, hb1⟩
  have hB1 := ((Below.refl w.heap.size w).alloc (Nat.le_refl _) _).trans (hb1.mono (by simp))
  have HI := Lib.hid hI
  have HB1 := Lib.hid hB1
  clear hB1 hb1 hI HC
  simp only [List.length_cons, List.length_nil, Nat.reduceAdd]
  go_wp2_with fail
  have HS := fun X (hA : Ints X X.heap.size A' [0, 2]) (hB : Ints X X.heap.size (some ⟨w1.heap.size, 0, none⟩) [0, 2]) => same_at (r := true) A' (some ⟨w1.heap.size, 0, none⟩) c' 2 [0, 2] [0, 2] X (by decide) (by decide) (by decide) hA hB
  refine (HS _ (HI.out.next ((Below.refl _ _).alloc (Nat.le_refl _) _)) (ints_two w1 _)).mono ?_
  rintro e w2 ⟨rfl, hb2⟩
  go_wp2
  go_ret
  exact ⟨rfl, HB1.out.trans (((Below.refl w1.heap.size w1).alloc (Nat.le_refl _) _).mono HB1.out.size |>.trans (hb2.mono (by simp; have := HB1.out.size; omega)))⟩
theorem wide_cst {ps : List Pc} {wd ind : Int} (hv : validB ps = true) (hf : fitsB wd ind = true) (hpn : ∀ k, k < ps.length → -100 ≤ pnAt ps k) :
    ∀ (s : List Nat) (i : Nat), IsP ps.length (gG ps wd ind) i s → 0 ≤ cst ps.length (cC ps wd ind) s ∧ (i = 0 → i < ps.length → 100 ≤ cst ps.length (cC ps wd ind) s)
  | [], i, h => ⟨Int.le_refl _, fun h0 h1 => by have : i = ps.length := h; omega⟩
  | a :: s, i, h => by
    obtain ⟨rfl, h1, h2, h3, h4⟩ := h
    have ih := (wide_cst hv hf hpn s _ h4).1
    have hb := badV_bound hv (i := a) h2 (widAt_bound hf a).1 (widAt_bound hf a).2
    have hp := hpn a (by omega)
    have hC : cC ps wd ind a (nxt ps.length s) = 100 + (if 0 < a then pnAt ps a else 0) + badV ps a (nxt ps.length s) (widAt wd ind a) := rfl
    rw [cst, hC]
    split <;> omega
theorem wide_best {ps : List Pc} {wd ind : Int} (hv : validB ps = true) (hf : fitsB wd ind = true) (hpn : ∀ k, k < ps.length → -100 ≤ pnAt ps k) (hl : lenL ps 0 ps.length ≤ wd) : bestP ps wd ind = [0] ∧ (bestT ps wd ind).dm = 100 := by
  have h1 := (validB_iff.1 hv).1.1
  obtain ⟨_, b2, b3, b4⟩ := best_of (n := ps.length) (C := cC ps wd ind) (G := gG ps wd ind) (fun i _ => gG_one ps wd ind i) (i := 0) (Nat.zero_le _)
  have hw : widAt wd ind 0 = wd := rfl
  have hC : cC ps wd ind 0 ps.length = 100 := by
    unfold cC demV badV
    rw [hw, if_neg (by omega), if_neg (by omega), if_neg (by omega)]
    rfl
  have hcst : cst ps.length (cC ps wd ind) [0] = 100 := by
    show cC ps wd ind 0 ps.length + 0 = 100
    omega
  have h0 : IsP ps.length (gG ps wd ind) 0 [0] := ⟨rfl, by show 0 < ps.length; omega, Nat.le_refl _, by show gG ps wd ind 0 ps.length = true; unfold gG legV; rw [hw, decide_eq_true hl]; rfl, rfl⟩
  have hge := (wide_cst hv hf hpn _ _ b2).2 rfl (by omega)
  have := b4 [0] h0
  rw [hcst] at this
  rcases this with h | ⟨h, h'⟩
  · rw [b3] at hge; omega
  · refine ⟨?_, h⟩
    show pathT _ _ 0 = [0]
    rcases h' with h' | h'
    · exact h'
    · generalize pathT ps.length (tailT ps.length (cC ps wd ind) (gG ps wd ind)) 0 = P at b2 h'
      cases P with
      | nil => have : 0 = ps.length := b2; omega
      | cons a s =>
        have ha : a = 0 := b2.1
        subst ha
        cases s <;> simp [bef] at h'
end Go.Proofs.Ytogkjaohphnflaa
