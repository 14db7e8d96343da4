/- Plain laws: legal starts are ways, their demerits the way's cost. -/
import Derived.Test.YtkamffjncndabaaBrkRest
namespace Go.Proofs.Ytkamffjncndabaa
theorem lAt_nat (s : List Nat) (k : Nat) (hk : k < s.length) : lAt (s.map Int.ofNat) k = (s[k] : Int) := by simp [lAt, List.getD, hk]
theorem end_nat {n : Nat} (p s : List Nat) (a : Nat) : endAt n ((p ++ a :: s).map Int.ofNat) p.length = (nxt n s : Int) := by
  unfold endAt
  cases s with
  | nil =>
    rw [if_neg (by simp)]
    rfl
  | cons b s =>
    rw [if_pos (by simp)]
    simp [lAt, nxt]
theorem at_nat (p s : List Nat) (a : Nat) : lAt ((p ++ a :: s).map Int.ofNat) p.length = (a : Int) := by simp [lAt]
/-- A way's demerits are its cost; its lines are legal. -/
theorem tot_way {ps : List Pc} {wd ind : Int} : ∀ (s p : List Nat) (i : Nat), IsP ps.length (gG ps wd ind) i s → (p.length = 0 ↔ i = 0) →
    totS ps ((p ++ s).map Int.ofNat) wd ind (p.length + s.length) = totS ps ((p ++ s).map Int.ofNat) wd ind p.length + cst ps.length (cC ps wd ind) s ∧
    totL ps ((p ++ s).map Int.ofNat) wd ind (p.length + s.length) = totL ps ((p ++ s).map Int.ofNat) wd ind p.length
  | [], p, i, _, _ => ⟨(Int.add_zero _).symm, rfl⟩
  | a :: s, p, i, h, hp => by
    obtain ⟨rfl, h1, h2, h3, h4⟩ := h
    have ih := tot_way s (p ++ [a]) _ h4 (by simp; omega)
    have e1 : (p ++ [a]) ++ s = p ++ a :: s := by simp
    have e2 : (p ++ [a]).length = p.length + 1 := by simp
    have hw : widAt wd ind p.length = widAt wd ind a := by
      unfold widAt
      by_cases e : p.length = 0
      · rw [if_pos e, if_pos (hp.1 e)]
      · rw [if_neg e, if_neg (fun x => e (hp.2 x))]
    rw [e1, e2] at ih
    have l1 : p.length + (a :: s).length = p.length + 1 + s.length := by simp only [List.length_cons]; omega
    rw [l1]
    refine ⟨?_, ?_⟩
    · rw [ih.1]
      show totS ps _ wd ind p.length + demV ps _ _ _ + _ = _
      rw [at_nat, end_nat, hw]
      show _ + cC ps wd ind a (nxt ps.length s) + cst _ _ s = _ + (cC ps wd ind a (nxt ps.length s) + cst _ _ s)
      omega
    · rw [ih.2]
      show (totL ps _ wd ind p.length && legV ps _ _ _) = _
      rw [at_nat, end_nat, hw]
      have : legV ps a (nxt ps.length s) (widAt wd ind a) = true := h3
      show (_ && legV ps a (nxt ps.length s) (widAt wd ind a)) = _
      rw [this, Bool.and_true]
theorem okSts_way {n : Nat} {G : Nat → Nat → Bool} : ∀ (s p : List Nat) (i : Nat), IsP n G i s → (∀ x, p.getLast? = some x → x < i) → okSts n ((p ++ s).map Int.ofNat) p.length = true → okSts n ((p ++ s).map Int.ofNat) (p.length + s.length) = true
  | [], _, _, _, _, h => h
  | a :: s, p, i, h, hp, hk => by
    obtain ⟨rfl, h1, h2, h3, h4⟩ := h
    have e1 : (p ++ [a]) ++ s = p ++ a :: s := by simp
    have e2 : (p ++ [a]).length = p.length + 1 := by simp
    have := okSts_way s (p ++ [a]) _ h4 (by simp; omega)
    rw [e1, e2] at this
    rw [show p.length + (a :: s).length = p.length + 1 + s.length by simp only [List.length_cons]; omega]
    refine this ?_
    show (okSts n _ p.length && okSt n _ p.length) = true
    rw [hk, Bool.true_and]
    refine okSt_iff.2 ⟨by rw [at_nat]; omega, ?_⟩
    by_cases e : p.length = 0
    · exact .inl e
    · right
      rw [at_nat]
      obtain ⟨q, x, rfl⟩ : ∃ q x, p = q ++ [x] := by
        rcases List.eq_nil_or_concat p with rfl | ⟨q, x, rfl⟩
        · exact absurd rfl e
        · exact ⟨q, x, by simp⟩
      have hx := hp x (by simp)
      have : lAt ((q ++ [x] ++ a :: s).map Int.ofNat) ((q ++ [x]).length - 1) = (x : Int) := by
        have := at_nat q (a :: s) x
        simpa using this
      rw [this]
      omega
/-- The best starts are legal, with the best demerits. -/
theorem way_tot {ps : List Pc} {wd ind : Int} (hp : parB ps wd ind = true) {s : List Nat} (hs : IsP ps.length (gG ps wd ind) 0 s) :
    totE ps (s.map Int.ofNat) wd ind = 0 ∧ totN ps (s.map Int.ofNat) wd ind = cst ps.length (cC ps wd ind) s := by
  obtain ⟨hv, hf⟩ := parB_iff.1 hp
  have h1 := (validB_iff.1 hv).1.1
  have h := tot_way s [] 0 hs (by simp)
  simp only [List.nil_append, List.length_nil, Nat.zero_add] at h
  have hl : totL ps (s.map Int.ofNat) wd ind s.length = true := h.2
  have hsum : totS ps (s.map Int.ofNat) wd ind s.length = 0 + cst ps.length (cC ps wd ind) s := h.1
  have hst : startsB ps.length (s.map Int.ofNat) = true := by
    cases s with
    | nil => have : 0 = ps.length := hs; omega
    | cons a s =>
      have ha : a = 0 := hs.1
      subst ha
      have := okSts_way (0 :: s) [] 0 hs (by simp) rfl
      simp only [List.nil_append, List.length_nil, Nat.zero_add] at this
      exact startsB_iff.2 ⟨by simp, rfl, by rw [List.length_map]; exact this⟩
  have := tot_yes hv hf hst (by rw [List.length_map]; exact hl)
  rw [List.length_map] at this
  exact ⟨this.1, by rw [this.2, hsum, Int.zero_add]⟩
end Go.Proofs.Ytkamffjncndabaa
