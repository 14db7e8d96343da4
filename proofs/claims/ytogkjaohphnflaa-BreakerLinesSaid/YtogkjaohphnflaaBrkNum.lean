/- Plain laws for BreakerNumbers. -/
import Derived.Test.YtogkjaohphnflaaLawPen
import Derived.Test.YtogkjaohphnflaaBrkFewest
namespace Go.Proofs.Ytogkjaohphnflaa
theorem ones_way {n : Nat} {G : Nat → Nat → Bool} (hG : ∀ i, i < n → G i (i + 1) = true) : ∀ (d i : Nat), i ≤ n → n - i = d → ∃ s, IsP n G i s ∧ s.length = d
  | 0, i, hi, hd => ⟨[], by show i = n; omega, rfl⟩
  | d + 1, i, hi, hd => by
    obtain ⟨s, hs, hl⟩ := ones_way hG d (i + 1) (by omega) (by omega)
    exact ⟨i :: s, ⟨rfl, by rw [hs.nxt_eq]; omega, by rw [hs.nxt_eq]; omega, by rw [hs.nxt_eq]; exact hG i (by omega), by rw [hs.nxt_eq]; exact hs⟩, by rw [List.length_cons, hl]⟩
theorem linesE_at {ps : List Pc} {wd ind : Int} (hp : parB ps wd ind = true) (k : Nat) : linesE ps wd ind k = if 1 ≤ k ∧ k ≤ ps.length then (if (kT ps wd ind k 0).th = true then 0 else 8) else 8 := by
  unfold linesE
  rw [if_pos hp, Int.toNat_natCast]
  by_cases h : 1 ≤ k ∧ k ≤ ps.length
  · rw [if_pos h, if_pos (by omega)]
  · rw [if_neg h, if_neg (by omega)]
/-- The law. -/
theorem numbers_law {ps : List Pc} {wd ind : Int} (hp : parB ps wd ind = true) :
    fewT ps.length (gG ps wd ind) 0 ≤ (bestP ps wd ind).length ∧ (bestP ps wd ind).length ≤ ps.length ∧ fewT ps.length (gG ps wd ind) 0 ≤ ps.length ∧
    (∀ k : Nat, k < fewT ps.length (gG ps wd ind) 0 ∨ ps.length < k → linesE ps wd ind k = 8) ∧
    (∀ k : Nat, fewT ps.length (gG ps wd ind) 0 ≤ k → k ≤ ps.length → (linesE ps wd ind k = 8 ∧ k ≠ fewT ps.length (gG ps wd ind) 0 ∧ k ≠ ps.length) ∨
      (linesE ps wd ind k = 0 ∧ (bestT ps wd ind).dm ≤ linesN ps wd ind k ∧ (k = (bestP ps wd ind).length → linesN ps wd ind k = (bestT ps wd ind).dm ∧ linesP ps wd ind k = bestP ps wd ind))) := by
  obtain ⟨hv, hf⟩ := parB_iff.1 hp
  have h1 := (validB_iff.1 hv).1.1
  have hG : ∀ i, i < ps.length → gG ps wd ind i (i + 1) = true := fun i _ => gG_one ps wd ind i
  obtain ⟨f1, ⟨sf, hsf, hlf⟩, f3⟩ := few_law hG ps.length 0 (Nat.zero_le _) (by omega)
  obtain ⟨_, b2, b3, b4⟩ := best_of (C := cC ps wd ind) hG (Nat.zero_le _)
  have hbl : (bestP ps wd ind).length ≤ ps.length := isP_len b2
  have hf0 : 1 ≤ fewT ps.length (gG ps wd ind) 0 := by
    cases sf with
    | nil => have : 0 = ps.length := hsf; omega
    | cons a s => simp at hlf; omega
  have hth : ∀ k : Nat, (kT ps wd ind k 0).th = true ↔ ∃ s, IsP ps.length (gG ps wd ind) 0 s ∧ s.length = k := by
    intro k
    rcases counted_best (C := cC ps wd ind) (G := gG ps wd ind) k 0 (Nat.zero_le ps.length) with ⟨ht, hK, _⟩ | ⟨ht, hno⟩
    · exact ⟨fun _ => ⟨_, hK.1, hK.2⟩, fun _ => ht⟩
    · refine ⟨fun h => ?_, fun ⟨s, hs⟩ => absurd hs (hno s)⟩
      have h : (tailsC ps.length (cC ps wd ind) (gG ps wd ind) k 0).th = true := h
      rw [ht] at h
      cases h
  refine ⟨f3 _ b2, hbl, by omega, fun k hk => ?_, fun k hk1 hk2 => ?_⟩
  · rw [linesE_at hp]
    by_cases h : 1 ≤ k ∧ k ≤ ps.length
    · rw [if_pos h]
      by_cases ht : (kT ps wd ind k 0).th = true
      · obtain ⟨s, hs, hl⟩ := (hth k).1 ht
        have := f3 s hs
        omega
      · rw [if_neg ht]
    · rw [if_neg h]
  · have hE := linesE_at hp k
    rw [if_pos ⟨by omega, hk2⟩] at hE
    cases ht : (kT ps wd ind k 0).th with
    | false =>
      left
      rw [ht] at hE
      refine ⟨by simpa using hE, fun e => ?_, fun e => ?_⟩
      · have := (hth k).2 ⟨sf, hsf, by rw [hlf, e]⟩
        rw [ht] at this; cases this
      · obtain ⟨s, hs, hl⟩ := ones_way hG ps.length 0 (Nat.zero_le _) (by omega)
        have := (hth k).2 ⟨s, hs, by rw [hl, e]⟩
        rw [ht] at this; cases this
    | true =>
      right
      rw [ht, if_pos rfl] at hE
      have eN : linesN ps wd ind k = (kT ps wd ind k 0).dm := by unfold linesN; rw [if_pos hE, Int.toNat_natCast]
      have eP : linesP ps wd ind k = kP ps wd ind k 0 := by unfold linesP; rw [if_pos hE, Int.toNat_natCast]
      rw [eN, eP]
      rcases counted_best (C := cC ps wd ind) (G := gG ps wd ind) k 0 (Nat.zero_le ps.length) with ⟨_, hK, hc, hall⟩ | ⟨ht2, _⟩
      · have e1 : tailsC ps.length (cC ps wd ind) (gG ps wd ind) k 0 = kT ps wd ind k 0 := rfl
        have e2 : pathC ps.length (cC ps wd ind) (gG ps wd ind) k 0 = kP ps wd ind k 0 := rfl
        have e3 : pathT ps.length (tailT ps.length (cC ps wd ind) (gG ps wd ind)) 0 = bestP ps wd ind := rfl
        have e4 : tailT ps.length (cC ps wd ind) (gG ps wd ind) 0 = bestT ps wd ind := rfl
        rw [e1, e2] at hc hall
        rw [e2] at hK
        rw [e3] at b2 b3 b4
        rw [e4] at b3 b4
        refine ⟨hE, ?_, fun e => ?_⟩
        · rcases b4 _ hK.1 with h | ⟨h, _⟩ <;> omega
        · rcases b4 _ hK.1 with h | ⟨h, h'⟩
          · rcases hall _ ⟨b2, e.symm⟩ with g | ⟨g, _⟩ <;> omega
          · refine ⟨by omega, ?_⟩
            rcases h' with h' | h'
            · exact h'.symm
            · rcases hall _ ⟨b2, e.symm⟩ with g | ⟨_, g⟩
              · omega
              · rcases g with g | g
                · exact g
                · have := bef_asymm h'
                  rw [g] at this
                  cases this
      · have ht2 : (kT ps wd ind k 0).th = false := ht2
        rw [ht] at ht2; cases ht2
end Go.Proofs.Ytogkjaohphnflaa
