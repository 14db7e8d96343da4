/- Center: plain words. -/
import Derived.Test.YtonahgdchngabaaPkCol
namespace Go.Proofs.Ytonahgdchngabaa
open Go.RowKit
def cenY (b : Bx) (ax : Int) : Int := ax - halfI (b.h - b.d)
open Classical in
noncomputable def cenE (b : Bx) (ax : Int) : Int :=
  if validB b then (if rngL ax ∧ rngL (b.h - b.d) then (if rngL (cenY b ax) then 0 else 6) else 2) else 1
open Classical in
noncomputable def cenR (b : Bx) (ax : Int) : Bx := if cenE b ax = 0 then b.atY (cenY b ax) else zeroBx
theorem cenE_1 {b : Bx} {ax : Int} (h : ¬ validB b) : cenE b ax = 1 ∧ cenR b ax = zeroBx := by
  have e : cenE b ax = 1 := by unfold cenE; rw [if_neg h]
  exact ⟨e, by unfold cenR; rw [e, if_neg (by decide)]⟩
theorem cenE_2 {b : Bx} {ax : Int} (h : validB b) (h2 : ¬ (rngL ax ∧ rngL (b.h - b.d))) : cenE b ax = 2 ∧ cenR b ax = zeroBx := by
  have e : cenE b ax = 2 := by unfold cenE; rw [if_pos h, if_neg h2]
  exact ⟨e, by unfold cenR; rw [e, if_neg (by decide)]⟩
theorem cenE_3 {b : Bx} {ax : Int} (h : validB b) (h2 : rngL ax ∧ rngL (b.h - b.d)) (h3 : ¬ rngL (cenY b ax)) : cenE b ax = 6 ∧ cenR b ax = zeroBx := by
  have e : cenE b ax = 6 := by unfold cenE; rw [if_pos h, if_pos h2, if_neg h3]
  exact ⟨e, by unfold cenR; rw [e, if_neg (by decide)]⟩
theorem cenE_0 {b : Bx} {ax : Int} (h : validB b) (h2 : rngL ax ∧ rngL (b.h - b.d)) (h3 : rngL (cenY b ax)) : cenE b ax = 0 ∧ cenR b ax = b.atY (cenY b ax) := by
  have e : cenE b ax = 0 := by unfold cenE; rw [if_pos h, if_pos h2, if_pos h3]
  exact ⟨e, by unfold cenR; rw [if_pos e]⟩
theorem valid_num {b : Bx} (h : validB b) : rngL b.w ∧ rngL b.h ∧ rngL b.d ∧ rngL b.x ∧ rngL b.y := by
  have h1 := ((properB_eq _).1 h.1).1.1
  exact ⟨h1 0 (by omega), h1 1 (by omega), h1 2 (by omega), h1 3 (by omega), h1 4 (by omega)⟩
theorem valid_atY {b : Bx} {y : Int} (h : validB b) : validB (b.atY y) ↔ rngL y := by
  constructor
  · exact fun h2 => (valid_num h2).2.2.2.2
  · intro hy
    have h0 := (properB_eq _).1 h.1
    have hn := valid_num h
    refine ⟨(properB_eq _).2 ⟨⟨fun k hk => ?_, h0.1.2.1, h0.1.2.2⟩, h0.2⟩, ?_, ?_⟩
    · match k, hk with
      | 0, _ => exact hn.1
      | 1, _ => exact hn.2.1
      | 2, _ => exact hn.2.2.1
      | 3, _ => exact hn.2.2.2.1
      | 4, _ => exact hy
    · have := h.2.1; rw [cntB_eq] at this ⊢; exact this
    · have := h.2.2; rw [nestB_eq] at this ⊢; exact this
def CenPost (b : Bx) (ax : Int) (w : World) (e : Ending) (w' : World) : Prop :=
  (∃ A2 c2 A3 c3, e = .returned (.tuple #[.agg (bxA (cenR b ax) A2 c2 A3 c3), .int .i64 (cenE b ax)]) ∧ Kids w' 0 w'.heap.size A2 (cenR b ax).kids ∧ Ints w' 0 w'.heap.size A3 (cenR b ax).src) ∧ Below w.heap.size w w'
theorem CenPost.zero {b : Bx} {ax z : Int} {w w' : World} (h : cenE b ax = z ∧ cenR b ax = zeroBx) (hb : Below w.heap.size w w') : CenPost b ax w (.returned (.tuple #[.agg zeroBox, .int .i64 z])) w' := by
  unfold CenPost
  rw [h.1, h.2]
  exact ⟨⟨none, 0, none, 0, rfl, Kids.nil _ _ _ _, fun h => absurd h (by simp [zeroBx, Bx.src])⟩, hb⟩
end Go.Proofs.Ytonahgdchngabaa
