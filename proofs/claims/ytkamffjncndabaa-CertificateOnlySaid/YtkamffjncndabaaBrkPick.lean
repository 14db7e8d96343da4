/- Plain laws for BreakerLeast: the starts that bits pick, and that no legal starts have less demerits than the best ones. -/
import Derived.Test.YtkamffjncndabaaBrkLeast
namespace Go.Proofs.Ytkamffjncndabaa
def anyG : Nat → Nat → Bool := fun _ _ => true
theorem isP_snoc {n : Nat} : ∀ {s : List Nat} {i : Nat}, IsP n anyG i s → IsP (n + 1) anyG i (s ++ [n])
  | [], i, h => by
    have e : i = n := h
    subst e
    exact ⟨rfl, Nat.lt_succ_self _, Nat.le_refl _, rfl, rfl⟩
  | a :: s, i, h => by
    obtain ⟨rfl, h1, h2, h3, h4⟩ := h
    have hn : nxt (n + 1) (s ++ [n]) = nxt n s := by cases s <;> rfl
    rw [List.cons_append]
    unfold IsP
    rw [hn]
    exact ⟨rfl, h1, by omega, rfl, isP_snoc h4⟩
theorem isP_more {n : Nat} : ∀ {s : List Nat} {i : Nat}, IsP n anyG i s → s ≠ [] → IsP (n + 1) anyG i s
  | [], _, _, h => absurd rfl h
  | [a], i, h, _ => by
    obtain ⟨rfl, h1, _⟩ := h
    have h1 : a < n := h1
    exact ⟨rfl, by show a < n + 1; omega, Nat.le_refl _, rfl, rfl⟩
  | a :: b :: s, i, h, _ => by
    obtain ⟨rfl, h1, h2, h3, h4⟩ := h
    exact ⟨rfl, h1, by show b ≤ n + 1; have : b ≤ n := h2; omega, rfl, isP_more (s := b :: s) h4 (by simp)⟩
theorem totL_mono {ps : List Pc} {l : List Int} {w ind : Int} : ∀ (m k : Nat), totL ps l w ind (k + m) = true → totL ps l w ind k = true
  | 0, _, h => h
  | m + 1, k, h => by
    have h' : (totL ps l w ind (k + m) && legV ps (lAt l (k + m)).toNat (endAt ps.length l (k + m)).toNat (widAt w ind (k + m))) = true := h
    exact totL_mono m k (Bool.and_eq_true _ _ ▸ h' : _ ∧ _).1
theorem way_of {ps : List Pc} {wd ind : Int} : ∀ (s p : List Nat) (i : Nat), IsP ps.length anyG i s → (p.length = 0 ↔ i = 0) →
    totL ps ((p ++ s).map Int.ofNat) wd ind (p.length + s.length) = true → IsP ps.length (gG ps wd ind) i s
  | [], _, _, h, _, _ => h
  | a :: s, p, i, h, hp, ht => by
    obtain ⟨rfl, h1, h2, _, h4⟩ := h
    have e1 : (p ++ [a]) ++ s = p ++ a :: s := by simp
    have e2 : (p ++ [a]).length = p.length + 1 := by simp
    have l1 : p.length + (a :: s).length = p.length + 1 + s.length := by simp only [List.length_cons]; omega
    rw [l1] at ht
    have hw : widAt wd ind p.length = widAt wd ind a := by
      unfold widAt
      by_cases e : p.length = 0
      · rw [if_pos e, if_pos (hp.1 e)]
      · rw [if_neg e, if_neg (fun x => e (hp.2 x))]
    have hl := totL_mono s.length (p.length + 1) ht
    have hl' : (totL ps ((p ++ a :: s).map Int.ofNat) wd ind p.length && legV ps (lAt ((p ++ a :: s).map Int.ofNat) p.length).toNat (endAt ps.length ((p ++ a :: s).map Int.ofNat) p.length).toNat (widAt wd ind p.length)) = true := hl
    rw [at_nat, end_nat, hw] at hl'
    have hleg : legV ps a (nxt ps.length s) (widAt wd ind a) = true := (Bool.and_eq_true _ _ ▸ hl' : _ ∧ _).2
    refine ⟨rfl, h1, h2, hleg, way_of s (p ++ [a]) _ h4 (by simp; omega) ?_⟩
    rw [e1, e2]
    exact ht
/-- No starts have less demerits than the best ones. -/
theorem least_law {ps : List Pc} {wd ind : Int} (hp : parB ps wd ind = true) {s : List Nat} (hs : IsP ps.length anyG 0 s) :
    (totE ps (s.map Int.ofNat) wd ind = 6 ∧ totN ps (s.map Int.ofNat) wd ind = 0) ∨ (totE ps (s.map Int.ofNat) wd ind = 0 ∧ (bestT ps wd ind).dm ≤ totN ps (s.map Int.ofNat) wd ind) := by
  obtain ⟨hv, hf⟩ := parB_iff.1 hp
  have h1 := (validB_iff.1 hv).1.1
  have hst : startsB ps.length (s.map Int.ofNat) = true := by
    cases s with
    | nil => have : 0 = ps.length := hs; omega
    | cons a s =>
      have ha : a = 0 := hs.1
      subst ha
      have := okSts_way (0 :: s) [] 0 hs (by simp) rfl
      simp only [List.nil_append, List.length_nil, Nat.zero_add] at this
      exact startsB_iff.2 ⟨by simp, rfl, by rw [List.length_map]; exact this⟩
  cases ht : totL ps (s.map Int.ofNat) wd ind s.length with
  | false =>
    left
    have : totE ps (s.map Int.ofNat) wd ind = 6 := by unfold totE; rw [if_pos ⟨hv, hf⟩, if_pos hst, List.length_map, if_neg (by rw [ht]; simp)]
    exact ⟨this, by unfold totN; rw [this]; rfl⟩
  | true =>
    right
    have hw := way_of s [] 0 hs (by simp) (by simpa using ht)
    obtain ⟨e1, e2⟩ := way_tot hp hw
    refine ⟨e1, ?_⟩
    rw [e2]
    have := (best_of (C := cC ps wd ind) (fun i _ => gG_one ps wd ind i) (i := 0) (Nat.zero_le _)).2.2.2 s hw
    unfold bestT
    omega
/-- The best starts answer the best demerits. -/
theorem best_tot {ps : List Pc} {wd ind : Int} (hp : parB ps wd ind = true) : totE ps ((bestP ps wd ind).map Int.ofNat) wd ind = 0 ∧ totN ps ((bestP ps wd ind).map Int.ofNat) wd ind = (bestT ps wd ind).dm := by
  obtain ⟨_, b2, b3, _⟩ := best_of (n := ps.length) (C := cC ps wd ind) (fun i _ => gG_one ps wd ind i) (i := 0) (Nat.zero_le _)
  obtain ⟨e1, e2⟩ := way_tot hp b2
  exact ⟨e1, by rw [show (bestP ps wd ind) = pathT ps.length (tailT ps.length (cC ps wd ind) (gG ps wd ind)) 0 from rfl, e2, b3]; rfl⟩
end Go.Proofs.Ytkamffjncndabaa
