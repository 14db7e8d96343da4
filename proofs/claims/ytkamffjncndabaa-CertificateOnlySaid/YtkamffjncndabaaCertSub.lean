/- Plain laws: the subsets that numbers describe are all the ways. -/
import Derived.Test.YtkamffjncndabaaBrkPick
namespace Go.Proofs.Ytkamffjncndabaa
def bitN (set j : Nat) : Bool := decide (set / 2 ^ j % 2 = 1)
/-- The starts among the pieces 0, .., k that a number's bits describe. -/
def subS (set : Nat) : Nat → List Nat
  | 0 => [0]
  | k + 1 => if bitN set k = true then subS set k ++ [k + 1] else subS set k
theorem subS_ne (set : Nat) : ∀ k, subS set k ≠ []
  | 0 => by simp [subS]
  | k + 1 => by
    unfold subS
    split
    · simp
    · exact subS_ne set k
theorem subS_way (set : Nat) : ∀ k, IsP (k + 1) anyG 0 (subS set k)
  | 0 => ⟨rfl, Nat.lt_succ_self _, Nat.le_refl _, rfl, rfl⟩
  | k + 1 => by
    unfold subS
    split
    · exact isP_snoc (subS_way set k)
    · exact isP_more (subS_way set k) (subS_ne set k)
theorem subS_yes {set k : Nat} (h : bitN set k = true) : subS set (k + 1) = subS set k ++ [k + 1] := by rw [subS, if_pos h]
theorem subS_no {set k : Nat} (h : bitN set k = false) : subS set (k + 1) = subS set k := by rw [subS, if_neg (by rw [h]; simp)]
theorem subS_len (set k : Nat) : 1 ≤ (subS set k).length ∧ (subS set k).length ≤ k + 1 := by
  have h1 := subS_ne set k
  have h2 := isP_len (subS_way set k)
  have : (subS set k).length ≠ 0 := fun e => h1 (List.eq_nil_of_length_eq_zero e)
  omega
theorem subS_congr {a b : Nat} : ∀ k, (∀ j, j < k → bitN a j = bitN b j) → subS a k = subS b k
  | 0, _ => rfl
  | k + 1, h => by
    unfold subS
    rw [subS_congr k (fun j hj => h j (by omega)), h k (by omega)]
theorem bit_top {set k : Nat} (h : set < 2 ^ k) : bitN (set + 2 ^ k) k = true ∧ bitN set k = false := by
  have h0 : 0 < 2 ^ k := Nat.two_pow_pos k
  have e1 : (set + 2 ^ k) / 2 ^ k = 1 := by rw [Nat.add_div_right _ h0, Nat.div_eq_of_lt h]
  have e2 : set / 2 ^ k = 0 := Nat.div_eq_of_lt h
  unfold bitN
  rw [e1, e2]
  exact ⟨rfl, rfl⟩
theorem bit_low {set k j : Nat} (hj : j < k) : bitN (set + 2 ^ k) j = bitN set j := by
  have h0 : 0 < 2 ^ j := Nat.two_pow_pos j
  have e : 2 ^ k = (2 ^ (k - j - 1) * 2) * 2 ^ j := by
    rw [← Nat.pow_succ, ← Nat.pow_add]
    congr 1
    omega
  have e1 : (set + 2 ^ k) / 2 ^ j = set / 2 ^ j + 2 ^ (k - j - 1) * 2 := by rw [e, Nat.add_mul_div_right _ _ h0]
  unfold bitN
  rw [e1, Nat.add_mul_mod_self_right]
theorem isP_split {n : Nat} : ∀ {s : List Nat} {i : Nat}, i ≤ n → IsP (n + 1) anyG i s → (∃ s', s = s' ++ [n] ∧ IsP n anyG i s') ∨ (s ≠ [] ∧ IsP n anyG i s ∧ i < n)
  | [], i, hi, h => by have : i = n + 1 := h; omega
  | [a], i, hi, h => by
    obtain ⟨rfl, _⟩ := h
    by_cases e : a = n
    · subst e; exact .inl ⟨[], rfl, rfl⟩
    · exact .inr ⟨by simp, ⟨rfl, by show a < n; omega, Nat.le_refl _, rfl, rfl⟩, by omega⟩
  | a :: b :: s, i, hi, h => by
    obtain ⟨rfl, h1, h2, _, h4⟩ := h
    have h1 : a < b := h1
    have hb : b ≤ n := by
      have := h4.2.1
      have := h4.2.2.1
      have h5 : b < nxt (n + 1) s := h4.2.1
      omega
    rcases isP_split hb h4 with ⟨s', e, h5⟩ | ⟨_, h5, h6⟩
    · refine .inl ⟨a :: s', by rw [e]; rfl, rfl, ?_, ?_, rfl, ?_⟩
      · rw [h5.nxt_eq]; exact h1
      · rw [h5.nxt_eq]; exact hb
      · rw [h5.nxt_eq]; exact h5
    · exact .inr ⟨by simp, ⟨rfl, h1, hb, rfl, h5⟩, by omega⟩
/-- Every way is a subset. -/
theorem sub_all : ∀ (k : Nat) (s : List Nat), IsP (k + 1) anyG 0 s → ∃ set, set < 2 ^ k ∧ s = subS set k
  | 0, s, h => by
    rcases isP_split (Nat.le_refl _) h with ⟨s', rfl, h2⟩ | ⟨_, _, h2⟩
    · have : s' = [] := by
        cases s' with
        | nil => rfl
        | cons a s' => have := h2.2.1; have := h2.2.2.1; omega
      subst this
      exact ⟨0, by simp, rfl⟩
    · omega
  | k + 1, s, h => by
    rcases isP_split (Nat.zero_le _) h with ⟨s', rfl, h2⟩ | ⟨_, h2, _⟩
    · obtain ⟨set, hs, rfl⟩ := sub_all k s' h2
      refine ⟨set + 2 ^ k, by rw [Nat.pow_succ]; omega, ?_⟩
      rw [subS_yes (bit_top hs).1, subS_congr k (fun j hj => bit_low hj)]
    · obtain ⟨set, hs, rfl⟩ := sub_all k s h2
      exact ⟨set, by rw [Nat.pow_succ]; omega, (subS_no (bit_top hs).2).symm⟩
theorem isP_any {n : Nat} {G : Nat → Nat → Bool} : ∀ {s : List Nat} {i : Nat}, IsP n G i s → IsP n anyG i s
  | [], _, h => h
  | _ :: _, _, h => ⟨h.1, h.2.1, h.2.2.1, rfl, isP_any h.2.2.2.2⟩
/-- Starts are legal exactly if they are a way of legal lines. -/
theorem legal_iff {ps : List Pc} {wd ind : Int} (hp : parB ps wd ind = true) {s : List Nat} (hs : IsP ps.length anyG 0 s) :
    (IsP ps.length (gG ps wd ind) 0 s ∧ totE ps (s.map Int.ofNat) wd ind = 0 ∧ totN ps (s.map Int.ofNat) wd ind = cst ps.length (cC ps wd ind) s) ∨
    (¬ IsP ps.length (gG ps wd ind) 0 s ∧ totE ps (s.map Int.ofNat) wd ind = 6 ∧ totN ps (s.map Int.ofNat) wd ind = 0) := by
  by_cases h : IsP ps.length (gG ps wd ind) 0 s
  · exact .inl ⟨h, way_tot hp h⟩
  · right
    refine ⟨h, ?_⟩
    obtain ⟨hv, hf⟩ := parB_iff.1 hp
    have h1 := (validB_iff.1 hv).1.1
    have hst : startsB ps.length (s.map Int.ofNat) = true := by
      cases s with
      | nil => have : 0 = ps.length := hs; omega
      | cons a s =>
        have ha : a = 0 := hs.1
        subst ha
        have := okSts_way (0 :: s) [] 0 hs (by simp) rfl
        simp only [List.nil_append, List.length_nil, Nat.zero_add] at this
        exact startsB_iff.2 ⟨by simp, rfl, by rw [List.length_map]; exact this⟩
    cases ht : totL ps (s.map Int.ofNat) wd ind s.length with
    | true => exact absurd (way_of s [] 0 hs (by simp) (by simpa using ht)) h
    | false =>
      have : totE ps (s.map Int.ofNat) wd ind = 6 := by unfold totE; rw [if_pos ⟨hv, hf⟩, if_pos hst, List.length_map, if_neg (by rw [ht]; simp)]
      exact ⟨this, by unfold totN; rw [this]; rfl⟩

end Go.Proofs.Ytkamffjncndabaa
