/- better returns the better one of two tails. -/
import Derived.Test.YtkamffjncndabaaKit
namespace Go.Proofs.Ytkamffjncndabaa
open Go.RowKit
theorem ret_tl {a b : Tl} (h : a = b) : Ending.returned (tlV a) = .returned (tlV b) := by rw [h]
theorem better_1 {n : Nat} {a b : Tl} (h : a.th = false) : better n a b = b := by unfold better; rw [if_pos h]
theorem better_2 {n : Nat} {a b : Tl} (h : a.th = true) (h2 : b.th = false ∨ a.dm < b.dm) : better n a b = a := by unfold better; rw [if_neg (by rw [h]; simp), if_pos h2]
theorem better_3 {n : Nat} {a b : Tl} (h : a.th = true) (h2 : b.th = true) (h3 : ¬ a.dm < b.dm) (h4 : b.dm < a.dm ∨ (b.en = n ∧ a.en ≠ n)) : better n a b = b := by
  unfold better; rw [if_neg (by rw [h]; simp), if_neg (by rw [h2]; simp; omega), if_pos h4]
theorem better_4 {n : Nat} {a b : Tl} (h : a.th = true) (h2 : b.th = true) (h3 : ¬ a.dm < b.dm) (h4 : ¬ (b.dm < a.dm ∨ (b.en = n ∧ a.en ≠ n))) (h5 : a.en = n ∨ a.en ≤ b.en) : better n a b = a := by
  unfold better; rw [if_neg (by rw [h]; simp), if_neg (by rw [h2]; simp; omega), if_neg h4, if_pos h5]
theorem better_5 {n : Nat} {a b : Tl} (h : a.th = true) (h2 : b.th = true) (h3 : ¬ a.dm < b.dm) (h4 : ¬ (b.dm < a.dm ∨ (b.en = n ∧ a.en ≠ n))) (h5 : ¬ (a.en = n ∨ a.en ≤ b.en)) : better n a b = b := by
  unfold better; rw [if_neg (by rw [h]; simp), if_neg (by rw [h2]; simp; omega), if_neg h4, if_neg h5]
set_option maxRecDepth 100000 in
set_option maxHeartbeats 4000000 in
theorem better_nat (a b : Tl) (n : Nat) (w : World) :
    Calls Try.prog 44 #[tlV a, tlV b, .int .i64 (n : Int)] w fun e w' => e = .returned (tlV (better n a b)) ∧ Below w.heap.size w w' := by
  obtain ⟨ath, adm, aen⟩ := a
  obtain ⟨bth, bdm, ben⟩ := b
  obtain ⟨r, hr⟩ : ∃ r, better n ⟨ath, adm, aen⟩ ⟨bth, bdm, ben⟩ = r := ⟨_, rfl⟩
  have HR := Lib.hid hr
  rw [hr]
  clear hr
  unfold tlV
  dsimp only
  cases ath
  · have HE := Lib.hid (HR.out.symm.trans (better_1 rfl))
    go_enter Try.func44, Try.ntmps44
    go_wp2
    refine bodyPost_ret (v := tlV ⟨bth, bdm, ben⟩) (by simp [results, Try.results44, go_sem, tlV]) rfl ⟨by rw [HE.out]; rfl, ?_⟩
    exact (((Below.refl _ _).alloc (Nat.le_refl _) _).alloc (by simp) _).alloc (by simp; omega) _
  · cases bth
    · have HE := Lib.hid (HR.out.symm.trans (better_2 rfl (.inl rfl)))
      go_enter Try.func44, Try.ntmps44
      go_wp2
      refine bodyPost_ret (v := tlV ⟨true, adm, aen⟩) (by simp [results, Try.results44, go_sem, tlV]) rfl ⟨by rw [HE.out]; rfl, ?_⟩
      exact (((Below.refl _ _).alloc (Nat.le_refl _) _).alloc (by simp) _).alloc (by simp; omega) _
    · have hcase : adm < bdm ∨ bdm < adm ∨ (adm ≤ bdm ∧ bdm ≤ adm) := by omega
      rcases hcase with h1 | h1 | ⟨h1, h2⟩
      · have HE := Lib.hid (HR.out.symm.trans (better_2 rfl (.inr h1)))
        go_enter Try.func44, Try.ntmps44
        go_wp2
        refine bodyPost_ret (v := tlV ⟨true, adm, aen⟩) (by simp [results, Try.results44, go_sem, tlV]) rfl ⟨by rw [HE.out]; rfl, ?_⟩
        exact (((Below.refl _ _).alloc (Nat.le_refl _) _).alloc (by simp) _).alloc (by simp; omega) _
      · have HE := Lib.hid (HR.out.symm.trans (better_3 rfl rfl (by dsimp only; omega) (.inl h1)))
        go_enter Try.func44, Try.ntmps44
        go_wp2
        refine bodyPost_ret (v := tlV ⟨true, bdm, ben⟩) (by simp [results, Try.results44, go_sem, tlV]) rfl ⟨by rw [HE.out]; rfl, ?_⟩
        exact (((Below.refl _ _).alloc (Nat.le_refl _) _).alloc (by simp) _).alloc (by simp; omega) _
      · have n1 : ¬ adm < bdm := by omega
        have n2 : ¬ bdm < adm := by omega
        by_cases hb : ben = n
        · by_cases ha : aen = n
          · have HE := Lib.hid (HR.out.symm.trans (better_4 rfl rfl n1 (by dsimp only; omega) (.inl ha)))
            have t1 : ((ben : Int) == (n : Int)) = true := by rw [beq_iff_eq]; omega
            have t2 : ((aen : Int) != (n : Int)) = false := by simp; omega
            have t3 : ((aen : Int) == (n : Int)) = true := by rw [beq_iff_eq]; omega
            clear ha hb
            go_enter Try.func44, Try.ntmps44
            go_wp2
            refine bodyPost_ret (v := tlV ⟨true, adm, aen⟩) (by simp [results, Try.results44, go_sem, tlV]) rfl ⟨by rw [HE.out]; rfl, ?_⟩
            exact (((Below.refl _ _).alloc (Nat.le_refl _) _).alloc (by simp) _).alloc (by simp; omega) _
          · have HE := Lib.hid (HR.out.symm.trans (better_3 rfl rfl n1 (.inr ⟨hb, ha⟩)))
            have t1 : ((ben : Int) == (n : Int)) = true := by rw [beq_iff_eq]; omega
            have t2 : ((aen : Int) != (n : Int)) = true := by simp; omega
            clear ha hb
            go_enter Try.func44, Try.ntmps44
            go_wp2
            refine bodyPost_ret (v := tlV ⟨true, bdm, ben⟩) (by simp [results, Try.results44, go_sem, tlV]) rfl ⟨by rw [HE.out]; rfl, ?_⟩
            exact (((Below.refl _ _).alloc (Nat.le_refl _) _).alloc (by simp) _).alloc (by simp; omega) _
        · have t1 : ((ben : Int) == (n : Int)) = false := by rw [beq_eq_false_iff_ne]; omega
          by_cases ha : aen = n
          · have HE := Lib.hid (HR.out.symm.trans (better_4 rfl rfl n1 (by dsimp only; omega) (.inl ha)))
            have t3 : ((aen : Int) == (n : Int)) = true := by rw [beq_iff_eq]; omega
            clear ha hb
            go_enter Try.func44, Try.ntmps44
            go_wp2
            refine bodyPost_ret (v := tlV ⟨true, adm, aen⟩) (by simp [results, Try.results44, go_sem, tlV]) rfl ⟨by rw [HE.out]; rfl, ?_⟩
            exact (((Below.refl _ _).alloc (Nat.le_refl _) _).alloc (by simp) _).alloc (by simp; omega) _
          · have t3 : ((aen : Int) == (n : Int)) = false := by rw [beq_eq_false_iff_ne]; omega
            by_cases hle : aen ≤ ben
            · have HE := Lib.hid (HR.out.symm.trans (better_4 rfl rfl n1 (by dsimp only; omega) (.inr hle)))
              clear ha hb
              go_enter Try.func44, Try.ntmps44
              go_wp2
              refine bodyPost_ret (v := tlV ⟨true, adm, aen⟩) (by simp [results, Try.results44, go_sem, tlV]) rfl ⟨by rw [HE.out]; rfl, ?_⟩
              exact (((Below.refl _ _).alloc (Nat.le_refl _) _).alloc (by simp) _).alloc (by simp; omega) _
            · have HE := Lib.hid (HR.out.symm.trans (better_5 rfl rfl n1 (by dsimp only; omega) (by dsimp only; omega)))
              clear ha hb
              go_enter Try.func44, Try.ntmps44
              go_wp2
              refine bodyPost_ret (v := tlV ⟨true, bdm, ben⟩) (by simp [results, Try.results44, go_sem, tlV]) rfl ⟨by rw [HE.out]; rfl, ?_⟩
              exact (((Below.refl _ _).alloc (Nat.le_refl _) _).alloc (by simp) _).alloc (by simp; omega) _
end Go.Proofs.Ytkamffjncndabaa
