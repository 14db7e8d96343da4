/- Plain laws: the fewest lines; the best ways with a number of lines when all penalties grow by one number. -/
import Derived.Test.YtogkjaohphnflaaBrkPlain
namespace Go.Proofs.Ytogkjaohphnflaa
/-- The least of n and of T j + 1 for the legal lines from i to j, j = i + 1, .., i + c. -/
def fewE (n : Nat) (G : Nat → Nat → Bool) (T : Nat → Nat) (i : Nat) : Nat → Nat
  | 0 => n
  | c + 1 => if G i (i + 1 + c) = true then min (fewE n G T i c) (T (i + 1 + c) + 1) else fewE n G T i c
theorem fewE_spec {n : Nat} {G : Nat → Nat → Bool} {T : Nat → Nat} {i : Nat} : ∀ c : Nat,
    (fewE n G T i c = n ∨ ∃ j, i < j ∧ j ≤ i + c ∧ G i j = true ∧ fewE n G T i c = T j + 1) ∧ (∀ j, i < j → j ≤ i + c → G i j = true → fewE n G T i c ≤ T j + 1) ∧ fewE n G T i c ≤ n
  | 0 => ⟨.inl rfl, fun j h1 h2 => by omega, Nat.le_refl _⟩
  | c + 1 => by
    obtain ⟨h1, h2, h3⟩ := fewE_spec (n := n) (G := G) (T := T) (i := i) c
    unfold fewE
    by_cases hg : G i (i + 1 + c) = true
    · rw [if_pos hg]
      refine ⟨?_, fun j a b hj => ?_, by omega⟩
      · by_cases hle : fewE n G T i c ≤ T (i + 1 + c) + 1
        · rw [Nat.min_eq_left hle]
          rcases h1 with h1 | ⟨j, a, b, g, e⟩
          · exact .inl h1
          · exact .inr ⟨j, a, by omega, g, e⟩
        · rw [Nat.min_eq_right (by omega)]
          exact .inr ⟨i + 1 + c, by omega, by omega, hg, rfl⟩
      · by_cases e : j = i + 1 + c
        · subst e; exact Nat.min_le_right _ _
        · exact Nat.le_trans (Nat.min_le_left _ _) (h2 j a (by omega) hj)
    · rw [if_neg hg]
      refine ⟨?_, fun j a b hj => ?_, h3⟩
      · rcases h1 with h1 | ⟨j, a, b, g, e⟩
        · exact .inl h1
        · exact .inr ⟨j, a, by omega, g, e⟩
      · by_cases e : j = i + 1 + c
        · subst e; exact absurd hj hg
        · exact h2 j a (by omega) hj
def fewF (n : Nat) (G : Nat → Nat → Bool) : Nat → Nat → Nat
  | 0 => fun _ => 0
  | d + 1 => fun j => if j = n - 1 - d then fewE n G (fewF n G d) j (n - j) else fewF n G d j
def fewT (n : Nat) (G : Nat → Nat → Bool) : Nat → Nat := fewF n G n
theorem fewE_congr {n : Nat} {G : Nat → Nat → Bool} {T T' : Nat → Nat} {i : Nat} : ∀ c : Nat, (∀ j, i < j → j ≤ i + c → T j = T' j) → fewE n G T i c = fewE n G T' i c
  | 0, _ => rfl
  | c + 1, h => by
    have ih := fewE_congr (n := n) (G := G) (T := T) (T' := T') (i := i) c (fun j h1 h2 => h j h1 (by omega))
    unfold fewE
    rw [ih, h (i + 1 + c) (by omega) (by omega)]
theorem fewF_stays {n : Nat} {G : Nat → Nat → Bool} : ∀ (e d : Nat), d + e ≤ n → ∀ j, n - d ≤ j → fewF n G (d + e) j = fewF n G d j
  | 0, _, _, _, _ => rfl
  | e + 1, d, h, j, hj => by
    show (if j = n - 1 - (d + e) then _ else fewF n G (d + e) j) = _
    rw [if_neg (by omega)]
    exact fewF_stays e d (by omega) j hj
theorem fewT_of {n : Nat} {G : Nat → Nat → Bool} {d : Nat} (hd : d ≤ n) {j : Nat} (hj : n - d ≤ j) : fewF n G d j = fewT n G j := by
  have := fewF_stays (G := G) (n - d) d (by omega) j hj
  rw [show d + (n - d) = n by omega] at this
  exact this.symm
theorem fewT_end (n : Nat) (G : Nat → Nat → Bool) : fewT n G n = 0 := by
  rw [← fewT_of (d := 0) (by omega) (by omega)]
  rfl
theorem fewT_eq {n : Nat} {G : Nat → Nat → Bool} {i : Nat} (hi : i < n) : fewT n G i = fewE n G (fewT n G) i (n - i) := by
  rw [← fewT_of (d := n - 1 - i + 1) (by omega) (by omega)]
  show (if i = n - 1 - (n - 1 - i) then _ else _) = _
  rw [if_pos (by omega)]
  exact fewE_congr _ fun j h1 h2 => fewT_of (by omega) (by omega)
/-- The fewest lines from i on: there is a way of so many, and none of less. -/
theorem few_law {n : Nat} {G : Nat → Nat → Bool} (hG : ∀ i, i < n → G i (i + 1) = true) : ∀ (d i : Nat), i ≤ n → n - i ≤ d →
    fewT n G i ≤ n - i ∧ (∃ s, IsP n G i s ∧ s.length = fewT n G i) ∧ ∀ s, IsP n G i s → fewT n G i ≤ s.length
  | 0, i, hi, hd => by
    obtain rfl : i = n := by omega
    rw [fewT_end]
    exact ⟨Nat.zero_le _, ⟨[], rfl, rfl⟩, fun _ _ => Nat.zero_le _⟩
  | d + 1, i, hi, hd => by
    by_cases hlt : i < n
    · have ih := fun j (h1 : i < j) (h2 : j ≤ n) => few_law hG d j h2 (by omega)
      obtain ⟨h1, h2, h3⟩ := fewE_spec (n := n) (G := G) (T := fewT n G) (i := i) (n - i)
      rw [← fewT_eq hlt] at h1 h2 h3
      have hone := h2 (i + 1) (by omega) (by omega) (hG i hlt)
      have hb := (ih (i + 1) (by omega) (by omega)).1
      have hex : ∃ j, i < j ∧ j ≤ n ∧ G i j = true ∧ fewT n G i = fewT n G j + 1 := by
        rcases h1 with h1 | ⟨j, a, b, g, e⟩
        · exact ⟨i + 1, by omega, by omega, hG i hlt, by omega⟩
        · exact ⟨j, a, by omega, g, e⟩
      refine ⟨by omega, ?_, fun s hs => ?_⟩
      · obtain ⟨j, a, b, g, e⟩ := hex
        obtain ⟨s, hs, hl⟩ := (ih j a b).2.1
        have hn := hs.nxt_eq
        exact ⟨i :: s, ⟨rfl, by rw [hn]; exact a, by rw [hn]; exact b, by rw [hn]; exact g, by rw [hn]; exact hs⟩, by rw [List.length_cons, hl, e]⟩
      · cases s with
        | nil => exact absurd hs (by show ¬ i = n; omega)
        | cons a s =>
          obtain ⟨rfl, q1, q2, q3, q4⟩ := hs
          have := (ih _ q1 q2).2.2 s q4
          have := h2 _ q1 (by omega) q3
          rw [List.length_cons]
          omega
    · exact few_law hG d i hi (by omega)

/-! ### All penalties grow by one number -/
def Shifted (s : Int) (a b : Tl) : Prop := b.th = a.th ∧ (a.th = true → b.dm = a.dm + s ∧ b.en = a.en)
theorem better_shift {n : Nat} {s : Int} {a b a' b' : Tl} (ha : Shifted s a a') (hb : Shifted s b b') (ht : b.th = true) : Shifted s (better n a b) (better n a' b') := by
  obtain ⟨a1, a2⟩ := ha
  obtain ⟨b1, b2⟩ := hb
  obtain ⟨b3, b4⟩ := b2 ht
  unfold better
  rw [a1, b1]
  cases hta : a.th with
  | false => simp only [if_true]; exact ⟨b1, fun _ => ⟨b3, b4⟩⟩
  | true =>
    obtain ⟨a3, a4⟩ := a2 hta
    rw [ht, a3, b3, a4, b4]
    simp only [Bool.true_eq_false, if_false, false_or, Int.add_lt_add_iff_right]
    have ka : Shifted s a a' := ⟨a1, fun _ => ⟨a3, a4⟩⟩
    have kb : Shifted s b b' := ⟨b1, fun _ => ⟨b3, b4⟩⟩
    split
    · exact ka
    · split
      · exact kb
      · split
        · exact ka
        · exact kb
theorem ext_shift {n : Nat} {C C' : Nat → Nat → Int} {G : Nat → Nat → Bool} {T T' : Nat → Tl} {i : Nat} {s t : Int} (hC : ∀ j, i < j → j ≤ n → C' i j = C i j + t) (hT : ∀ j, i < j → j ≤ n → Shifted s (T j) (T' j)) :
    ∀ c : Nat, i + c ≤ n → Shifted (s + t) (ext n C G T i c) (ext n C' G T' i c)
  | 0, _ => ⟨rfl, fun h => by cases h⟩
  | c + 1, hc => by
    have ih := ext_shift (G := G) hC hT c (by omega)
    have h1 := hT (i + 1 + c) (by omega) (by omega)
    have h2 := hC (i + 1 + c) (by omega) (by omega)
    unfold ext
    rw [h1.1]
    by_cases hg : (G i (i + 1 + c) && (T (i + 1 + c)).th) = true
    · rw [if_pos hg, if_pos hg]
      have ht : (T (i + 1 + c)).th = true := by rw [Bool.and_eq_true] at hg; exact hg.2
      refine better_shift ih ⟨rfl, fun _ => ⟨?_, rfl⟩⟩ rfl
      dsimp only
      rw [h2, (h1.2 ht).1]
      omega
    · rw [if_neg hg, if_neg hg]
      exact ih
theorem counted_shift {n : Nat} {C C' : Nat → Nat → Int} {G : Nat → Nat → Bool} {by_ : Int} (hC : ∀ i j, i < j → j ≤ n → C' i j = C i j + (if 0 < i then by_ else 0)) :
    ∀ (c i : Nat), i ≤ n → (0 < i ∨ 0 < c) → Shifted (by_ * (c : Int) - (if 0 < i then 0 else by_)) (tailsC n C G c i) (tailsC n C' G c i)
  | 0, i, hi, h => by
    rw [if_pos (by omega)]
    refine ⟨rfl, fun _ => ⟨?_, rfl⟩⟩
    show _ = _ + (by_ * ((0 : Nat) : Int) - 0)
    simp [tailsC]
  | c + 1, i, hi, _ => by
    have e : ∀ C : Nat → Nat → Int, tailsC n C G (c + 1) i = if i < n then ext n C G (tailsC n C G c) i (n - i) else noTl := fun _ => rfl
    rw [e C, e C']
    by_cases hlt : i < n
    · rw [if_pos hlt, if_pos hlt]
      have hs := ext_shift (n := n) (C := C) (C' := C') (G := G) (T := tailsC n C G c) (T' := tailsC n C' G c) (i := i) (s := by_ * (c : Int)) (t := if 0 < i then by_ else 0) (fun j h1 h2 => hC i j h1 h2)
        (fun j h1 h2 => by
          have := counted_shift (C := C) (C' := C') (G := G) hC c j h2 (.inl (by omega))
          rw [if_pos (by omega), Int.sub_zero] at this
          exact this) (n - i) (by omega)
      have e2 : by_ * (c : Int) + (if 0 < i then by_ else 0) = by_ * ((c + 1 : Nat) : Int) - (if 0 < i then 0 else by_) := by
        rw [show ((c + 1 : Nat) : Int) = (c : Int) + 1 by omega, Int.mul_add, Int.mul_one]
        split <;> omega
      rw [← e2]
      exact hs
    · rw [if_neg hlt, if_neg hlt]
      exact ⟨rfl, fun h => by cases h⟩
theorem pathC_shift {n : Nat} {C C' : Nat → Nat → Int} {G : Nat → Nat → Bool} {by_ : Int} (hC : ∀ i j, i < j → j ≤ n → C' i j = C i j + (if 0 < i then by_ else 0)) :
    ∀ (c i : Nat), i ≤ n → (tailsC n C G c i).th = true → pathC n C' G c i = pathC n C G c i
  | 0, _, _, _ => rfl
  | c + 1, i, hi, h => by
    obtain ⟨h1, h2, h3, h4⟩ := counted_en h
    have hs := counted_shift (G := G) hC (c + 1) i hi (.inr (by omega))
    show i :: pathC n C' G c (tailsC n C' G (c + 1) i).en = i :: pathC n C G c (tailsC n C G (c + 1) i).en
    rw [(hs.2 h).2, pathC_shift hC c _ h3 h4]
end Go.Proofs.Ytogkjaohphnflaa
