/- slices.Clone of a row of boxes. -/
import Derived.Test.YtonahgdchngabaaRowCp
import Derived.Test.YtonahgdchngabaaAppCap
namespace Go.Proofs.Ytonahgdchngabaa
open Go.RowKit
set_option maxRecDepth 100000 in
set_option maxHeartbeats 1000000 in
theorem clone_boxes {Q : List Q5} (A : Option Addr) (c : Nat) (l : List Bx) (w : World) (hl : l.length ≤ 100000) (hQ : Q.map Q5.t = l) (hs : ∀ W', Below w.heap.size w W' → 0 < l.length → ∃ b off, A = some ⟨b, off, none⟩ ∧ ∀ j u, (rowC Q)[j]? = some u → W'.cell? ⟨b, off + j, none⟩ = some u) :
    Calls Try.prog 22 #[.slice A l.length c] w fun e w' => (∃ A' c', e = .returned (.slice A' l.length c') ∧ Copied w.heap.size 27 (rowC Q) l.length A' w' ∧ l.length ≤ c') ∧ Below w.heap.size w w' := by
  obtain ⟨i0, hi0, hz0, hz1, hz2⟩ := info_parts infoBox
  have HS := Lib.hid hs
  have hE := fun W => Lib.run_eql_slice_nil (P := Try.prog) W 22 27 A l.length c 0 0 Try.underlying22
  have HQL : Hid ((rowC Q).length = l.length * 11) := by show _ = _; rw [rowC_len, ← hQ, List.length_map]
  clear hs hQ
  cases A with
  | none =>
    have h1 : l.length = 0 := by
      rcases Nat.eq_zero_or_pos l.length with h | h
      · exact h
      · obtain ⟨_, _, e, _⟩ := HS.out w (Below.refl _ _) h
        cases e
    have HL := Lib.hid h1
    rw [h1] at hE ⊢
    clear h1
    go_enter Try.func22, Try.ntmps22
    go_wp2
    go_ret
    exact ⟨⟨none, 0, rfl, (fun h => absurd h (Nat.lt_irrefl _)), Nat.zero_le _⟩, Below.refl _ _⟩
  | some a =>
    go_enter Try.func22, Try.ntmps22
    go_wp2_with (at_builtin; go_loud (refine wpList_append_cap rfl _ _ 22 27 rfl i0 _ 11 128 Try.underlying22 hi0 hz0 hz1 hz2 rfl (by decide) rfl rfl (heap_alloc_new _ _) (rowC Q) HQL.out (HS.out _ (one_below _ _)) (rowC_one_cell Q) (by unfold maxLen; omega) (by omega) ?_); intro A2 c2 w2 hcp hcap hb2; have HCP := Lib.hid hcp; have HB2 := Lib.hid hb2; clear hcp hb2)
    go_ret
    exact ⟨⟨A2, c2, rfl, HCP.out, hcap⟩, (one_below _ _).trans HB2.out⟩
end Go.Proofs.Ytonahgdchngabaa
