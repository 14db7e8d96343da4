/- Plain laws: the best of all subsets are the best ways. -/
import Derived.Test.YtogkjaohphnflaaRefAll
import Derived.Test.YtogkjaohphnflaaBrkNum
namespace Go.Proofs.Ytogkjaohphnflaa
def Cls (ps : List Pc) (wd ind : Int) (m k : Nat) (s : List Nat) : Prop := (∃ set, set < m ∧ s = subS set (ps.length - 1)) ∧ IsP ps.length (gG ps wd ind) 0 s ∧ (k = 0 ∨ s.length = k)
theorem allF_best {ps : List Pc} {wd ind : Int} (hp : parB ps wd ind = true) (k : Nat) : ∀ m, BestR ps.length (cC ps wd ind) (Cls ps wd ind m k) (allF ps wd ind m k)
  | 0 => .inr ⟨rfl, fun s h => by obtain ⟨⟨set, h, _⟩, _⟩ := h; omega⟩
  | m + 1 => by
    have ih := allF_best hp k m
    have h1 := (validB_iff.1 (parB_iff.1 hp).1).1.1
    have e : allF ps wd ind (m + 1) k = (if totE ps ((subS m (ps.length - 1)).map Int.ofNat) wd ind = 0 then tryM (allF ps wd ind m) (subS m (ps.length - 1)) (totN ps ((subS m (ps.length - 1)).map Int.ofNat) wd ind) 2 else allF ps wd ind m) k := rfl
    have hl := (subS_len m (ps.length - 1)).1
    rw [e]
    rcases legal_iff hp (sub_in h1 m) with ⟨hw, e1, e2⟩ | ⟨hw, e1, _⟩
    · rw [if_pos e1, e2]
      generalize hs : subS m (ps.length - 1) = s at hw hl
      have hK : ∀ t, Cls ps wd ind (m + 1) k t ↔ Cls ps wd ind m k t ∨ (t = s ∧ (k = 0 ∨ s.length = k)) := fun t => by
        constructor
        · rintro ⟨⟨set, h2, h3⟩, h4, h5⟩
          by_cases e : set = m
          · subst e
            rw [hs] at h3
            subst h3
            exact .inr ⟨rfl, h5⟩
          · exact .inl ⟨⟨set, by omega, h3⟩, h4, h5⟩
        · rintro (⟨⟨set, h2, h3⟩, h4, h5⟩ | ⟨rfl, h5⟩)
          · exact ⟨⟨set, by omega, h3⟩, h4, h5⟩
          · exact ⟨⟨m, by omega, hs.symm⟩, hw, h5⟩
      have e3 : tryM (allF ps wd ind m) s (cst ps.length (cC ps wd ind) s) 2 k = if k = 0 ∨ s.length = k then upd (allF ps wd ind m k) s (cst ps.length (cC ps wd ind) s) else allF ps wd ind m k := by
        show (if k = s.length then upd (if k = 0 then upd (allF ps wd ind m k) s _ else allF ps wd ind m k) s _ else if k = 0 then upd (allF ps wd ind m k) s _ else allF ps wd ind m k) = _
        by_cases c1 : k = 0
        · rw [if_neg (by omega), if_pos c1, if_pos (.inl c1)]
        · by_cases c2 : k = s.length
          · rw [if_pos c2, if_neg c1, if_pos (.inr c2.symm)]
          · rw [if_neg c2, if_neg c1, if_neg (by omega)]
      rw [e3]
      by_cases c : k = 0 ∨ s.length = k
      · rw [if_pos c]
        refine bestR_upd ih ((hK s).2 (.inr ⟨rfl, c⟩)) (fun t => ?_)
        rw [hK]
        constructor
        · rintro (h | ⟨h, _⟩)
          · exact .inl h
          · exact .inr h
        · rintro (h | h)
          · exact .inl h
          · exact .inr ⟨h, c⟩
      · rw [if_neg c]
        refine bestR_same ih (fun t => ?_)
        rw [hK]
        constructor
        · rintro (h | ⟨_, h⟩)
          · exact h
          · exact absurd h c
        · exact .inl
    · rw [if_neg (by rw [e1]; simp)]
      refine bestR_same ih (fun t => ?_)
      constructor
      · rintro ⟨⟨set, h2, h3⟩, h4, h5⟩
        by_cases e : set = m
        · subst e
          subst h3
          exact absurd h4 hw
        · exact ⟨⟨set, by omega, h3⟩, h4, h5⟩
      · rintro ⟨⟨set, h2, h3⟩, h4, h5⟩
        exact ⟨⟨set, by omega, h3⟩, h4, h5⟩
/-- What All finds. -/
def allR (ps : List Pc) (wd ind : Int) (k : Nat) : Rs := allF ps wd ind (2 ^ (ps.length - 1)) k
theorem cls_all {ps : List Pc} {wd ind : Int} (h1 : 1 ≤ ps.length) (k : Nat) (s : List Nat) : Cls ps wd ind (2 ^ (ps.length - 1)) k s ↔ IsP ps.length (gG ps wd ind) 0 s ∧ (k = 0 ∨ s.length = k) := by
  constructor
  · exact fun h => h.2
  · intro h
    have h2 := isP_any h.1
    rw [show ps.length = ps.length - 1 + 1 by omega] at h2
    exact ⟨sub_all _ s h2, h⟩
theorem all_best {ps : List Pc} {wd ind : Int} (hp : parB ps wd ind = true) : (allR ps wd ind 0).st = bestP ps wd ind ∧ (allR ps wd ind 0).tot = (bestT ps wd ind).dm := by
  have h1 := (validB_iff.1 (parB_iff.1 hp).1).1.1
  have hb := bestR_same (allF_best hp 0 (2 ^ (ps.length - 1))) (K' := IsP ps.length (gG ps wd ind) 0) (fun t => by rw [cls_all h1]; exact ⟨fun h => ⟨h, .inl rfl⟩, fun h => h.1⟩)
  obtain ⟨b1, b2, b3, b4⟩ := best_of (C := cC ps wd ind) (fun i _ => gG_one ps wd ind i) (Nat.zero_le ps.length)
  have := (bestR_uniq (t := bestT ps wd ind) (P := bestP ps wd ind) hb (.inl ⟨b1, b2, b3, b4⟩)).2 b1
  exact this
theorem all_count {ps : List Pc} {wd ind : Int} (hp : parB ps wd ind = true) {k : Nat} (hk : 1 ≤ k) : (allR ps wd ind k).fd = (kT ps wd ind k 0).th ∧ ((kT ps wd ind k 0).th = true → (allR ps wd ind k).st = kP ps wd ind k 0 ∧ (allR ps wd ind k).tot = (kT ps wd ind k 0).dm) := by
  have h1 := (validB_iff.1 (parB_iff.1 hp).1).1.1
  have hb := bestR_same (allF_best hp k (2 ^ (ps.length - 1))) (K' := KC ps.length (gG ps wd ind) k 0) (fun t => by
    rw [cls_all h1]
    constructor
    · rintro ⟨h, h'⟩
      exact ⟨h, .inr h'⟩
    · rintro ⟨h, h'⟩
      exact ⟨h, by omega⟩)
  exact bestR_uniq (t := kT ps wd ind k 0) (P := kP ps wd ind k 0) hb (counted_best k 0 (Nat.zero_le _))
/-- The first number of lines for which there are starts. -/
theorem all_few {ps : List Pc} {wd ind : Int} (hp : parB ps wd ind = true) : 1 ≤ fewT ps.length (gG ps wd ind) 0 ∧ fewT ps.length (gG ps wd ind) 0 ≤ ps.length ∧ (allR ps wd ind (fewT ps.length (gG ps wd ind) 0)).fd = true ∧
    ∀ k, 1 ≤ k → k < fewT ps.length (gG ps wd ind) 0 → (allR ps wd ind k).fd = false := by
  obtain ⟨_, _, n3, n4, n5⟩ := numbers_law hp
  have h1 := (validB_iff.1 (parB_iff.1 hp).1).1.1
  have hf0 : 1 ≤ fewT ps.length (gG ps wd ind) 0 := by
    obtain ⟨_, ⟨s, hs, hl⟩, _⟩ := few_law (n := ps.length) (fun i _ => gG_one ps wd ind i) ps.length 0 (Nat.zero_le _) (by omega)
    cases s with
    | nil => have : 0 = ps.length := hs; omega
    | cons a s => simp at hl; omega
  refine ⟨hf0, n3, ?_, fun k hk1 hk2 => ?_⟩
  · have hE := linesE_at hp (fewT ps.length (gG ps wd ind) 0)
    rw [if_pos ⟨hf0, n3⟩] at hE
    rw [(all_count hp hf0).1]
    rcases n5 _ (Nat.le_refl _) n3 with ⟨_, h, _⟩ | ⟨h, _⟩
    · exact absurd rfl h
    · rw [h] at hE
      cases ht : (kT ps wd ind (fewT ps.length (gG ps wd ind) 0) 0).th with
      | true => rfl
      | false => rw [ht] at hE; simp at hE
  · have hE := linesE_at hp k
    rw [if_pos ⟨hk1, by omega⟩] at hE
    rw [(all_count hp hk1).1]
    rw [n4 k (.inl hk2)] at hE
    cases ht : (kT ps wd ind k 0).th with
    | false => rfl
    | true => rw [ht] at hE; simp at hE
end Go.Proofs.Ytogkjaohphnflaa
