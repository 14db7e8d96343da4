/- Plain laws: the best way from the second line on is the best way of the pieces from there on. -/
import Derived.Test.YtkamffjncndabaaBrkBest
namespace Go.Proofs.Ytkamffjncndabaa
theorem nxt_map (n s1 : Nat) (s : List Nat) : nxt (s1 + n) (s.map (s1 + ·)) = s1 + nxt n s := by cases s <;> rfl
theorem isP_map {n s1 : Nat} {G G' : Nat → Nat → Bool} (hG : ∀ i j, G' i j = G (s1 + i) (s1 + j)) : ∀ (s : List Nat) (i : Nat), IsP n G' i s → IsP (s1 + n) G (s1 + i) (s.map (s1 + ·))
  | [], i, h => by
    have e : i = n := h
    show s1 + i = s1 + n
    omega
  | a :: s, i, h => by
    obtain ⟨rfl, h1, h2, h3, h4⟩ := h
    refine ⟨rfl, ?_, ?_, ?_, ?_⟩
    · rw [nxt_map]; omega
    · rw [nxt_map]; omega
    · rw [nxt_map, ← hG]; exact h3
    · rw [nxt_map]; exact isP_map hG s _ h4
theorem isP_unmap {n s1 : Nat} {G G' : Nat → Nat → Bool} (hG : ∀ i j, G' i j = G (s1 + i) (s1 + j)) : ∀ (s : List Nat) (i : Nat), IsP (s1 + n) G (s1 + i) s → IsP n G' i (s.map (· - s1)) ∧ (s.map (· - s1)).map (s1 + ·) = s
  | [], i, h => by
    have e : s1 + i = s1 + n := h
    exact ⟨by show i = n; omega, rfl⟩
  | a :: s, i, h => by
    obtain ⟨rfl, h1, h2, h3, h4⟩ := h
    obtain ⟨x, hx⟩ : ∃ x, nxt (s1 + n) s = s1 + x := ⟨nxt (s1 + n) s - s1, by omega⟩
    rw [hx] at h1 h2 h3 h4
    have ih := isP_unmap hG s x h4
    have hn : nxt n (s.map (· - s1)) = x := by
      have := nxt_map n s1 (s.map (· - s1))
      rw [ih.2, hx] at this
      omega
    refine ⟨⟨by simp, ?_, ?_, ?_, ?_⟩, ?_⟩
    · rw [hn]; omega
    · rw [hn]; omega
    · rw [hn, hG]; exact h3
    · rw [hn]; exact ih.1
    · show (s1 + (s1 + i - s1)) :: _ = _
      rw [ih.2, Nat.add_sub_cancel_left]
theorem cst_map {n s1 : Nat} {C C' : Nat → Nat → Int} {G' : Nat → Nat → Bool} {d : Int} (hC : ∀ i j, i < j → j ≤ n → C (s1 + i) (s1 + j) = C' i j + (if i = 0 then d else 0)) : ∀ (s : List Nat) (i : Nat), IsP n G' i s →
    cst (s1 + n) C (s.map (s1 + ·)) = cst n C' s + (if i = 0 ∧ 0 < n then d else 0)
  | [], i, h => by
    have e : i = n := h
    rw [if_neg (by omega)]
    rfl
  | a :: s, i, h => by
    obtain ⟨rfl, h1, h2, h3, h4⟩ := h
    have ih := cst_map hC s _ h4
    rw [if_neg (by omega)] at ih
    show C (s1 + a) (nxt (s1 + n) (s.map (s1 + ·))) + cst (s1 + n) C (s.map (s1 + ·)) = C' a (nxt n s) + cst n C' s + _
    rw [nxt_map, ih, hC _ _ h1 h2]
    by_cases e : a = 0
    · rw [if_pos e, if_pos ⟨e, by omega⟩]; omega
    · rw [if_neg e, if_neg (fun h => e h.1)]; omega
theorem bef_map (s1 : Nat) : ∀ s t : List Nat, bef (s.map (s1 + ·)) (t.map (s1 + ·)) = bef s t
  | [], [] => rfl
  | [], _ :: _ => rfl
  | _ :: _, [] => rfl
  | a :: s, b :: t => by
    show (decide (s1 + a < s1 + b) || (decide (s1 + a = s1 + b) && bef (s.map (s1 + ·)) (t.map (s1 + ·)))) = (decide (a < b) || (decide (a = b) && bef s t))
    rw [bef_map s1 s t]
    congr 1
    · simp
    · congr 1; simp
theorem rest_best {n s1 : Nat} {C C' : Nat → Nat → Int} {G G' : Nat → Nat → Bool} {d : Int} (hone : ∀ i, i < s1 + n → G i (i + 1) = true) (hG : ∀ i j, G' i j = G (s1 + i) (s1 + j)) (h0 : 0 < n)
    (hC : ∀ i j, i < j → j ≤ n → C (s1 + i) (s1 + j) = C' i j + (if i = 0 then d else 0)) :
    pathT (s1 + n) (tailT (s1 + n) C G) s1 = (pathT n (tailT n C' G') 0).map (s1 + ·) ∧ (tailT (s1 + n) C G s1).dm = (tailT n C' G' 0).dm + d := by
  obtain ⟨_, b2, b3, b4⟩ := best_of (C := C) hone (i := s1) (by omega)
  obtain ⟨_, c2, c3, c4⟩ := best_of (C := C') (G := G') (n := n) (fun i hi => by rw [hG]; exact hone _ (by omega)) (i := 0) (Nat.zero_le _)
  generalize pathT (s1 + n) (tailT (s1 + n) C G) s1 = P at *
  generalize pathT n (tailT n C' G') 0 = Q at *
  have hQ := isP_map hG Q 0 c2
  have hQc := cst_map hC Q 0 c2
  rw [if_pos ⟨rfl, h0⟩, c3] at hQc
  obtain ⟨hP, hPe⟩ := isP_unmap hG P 0 b2
  have hPc := cst_map hC _ 0 hP
  rw [if_pos ⟨rfl, h0⟩, hPe, b3] at hPc
  have b := b4 _ hQ
  have c := c4 _ hP
  rw [hQc] at b
  rcases b with b | ⟨b, b'⟩ <;> rcases c with c | ⟨c, c'⟩
  · omega
  · omega
  · omega
  · refine ⟨?_, b⟩
    rcases b' with b' | b'
    · exact b'
    · rcases c' with c' | c'
      · rw [c', hPe]
      · have := bef_map s1 Q (P.map (· - s1))
        rw [hPe, c'] at this
        rw [bef_asymm b'] at this
        cases this
theorem wd_drop (ps : List Pc) (s k : Nat) : wdAt (ps.drop s) k = wdAt ps (s + k) := by simp [wdAt, List.getD]
theorem sp_drop (ps : List Pc) (s k : Nat) : spAt (ps.drop s) k = spAt ps (s + k) := by simp [spAt, List.getD]
theorem pn_drop (ps : List Pc) (s k : Nat) : pnAt (ps.drop s) k = pnAt ps (s + k) := by simp [pnAt, List.getD]
theorem lenR_drop (ps : List Pc) (s i : Nat) : ∀ c, lenR (ps.drop s) i c = lenR ps (s + i) c
  | 0 => rfl
  | c + 1 => by unfold lenR; rw [lenR_drop ps s i c, wd_drop, sp_drop, Nat.add_assoc]
theorem lenL_drop (ps : List Pc) (s i j : Nat) : lenL (ps.drop s) i j = lenL ps (s + i) (s + j) := by unfold lenL; rw [lenR_drop, Nat.add_sub_add_left]
theorem bad_drop {ps : List Pc} {s : Nat} (hs : s ≤ ps.length) (i j : Nat) (w : Int) : badV (ps.drop s) i j w = badV ps (s + i) (s + j) w := by
  unfold badV
  rw [lenL_drop, List.length_drop]
  have : (j < ps.length - s) = (s + j < ps.length) := by apply propext; omega
  simp only [this]
theorem leg_drop (ps : List Pc) (s i j : Nat) (w : Int) : legV (ps.drop s) i j w = legV ps (s + i) (s + j) w := by
  unfold legV
  rw [lenL_drop]
  have : (j = i + 1) = (s + j = s + i + 1) := by apply propext; omega
  simp only [this]
theorem par_drop {ps : List Pc} {wd ind : Int} (h : parB ps wd ind = true) {s : Nat} (hs : s < ps.length) : parB (ps.drop s) (wd - ind) 0 = true := by
  obtain ⟨hv, hf⟩ := parB_iff.1 h
  have h1 := validB_iff.1 hv
  have h2 := fitsB_iff.1 hf
  refine parB_iff.2 ⟨validB_iff.2 ⟨by rw [List.length_drop]; omega, ?_⟩, fitsB_iff.2 (by omega)⟩
  have := h1.2
  unfold allOk at *
  rw [List.all_eq_true] at *
  exact fun x hx => this x (List.mem_of_mem_drop hx)
/-- What Best says of the pieces from the second line on. -/
theorem tails_law {ps : List Pc} {wd ind : Int} (_ : validB ps = true) {s1 : Nat} (h0 : 0 < s1) (hs : s1 < ps.length) :
    pathT ps.length (tailT ps.length (cC ps wd ind) (gG ps wd ind)) s1 = (bestP (ps.drop s1) (wd - ind) 0).map (s1 + ·) ∧ (tailT ps.length (cC ps wd ind) (gG ps wd ind) s1).dm = (bestT (ps.drop s1) (wd - ind) 0).dm + pnAt ps s1 := by
  have hn : s1 + (ps.length - s1) = ps.length := by omega
  have hw : ∀ i, widAt wd ind (s1 + i) = wd - ind := fun i => by unfold widAt; rw [if_neg (by omega)]
  have hw' : ∀ i, widAt (wd - ind) 0 i = wd - ind := fun i => by unfold widAt; split <;> omega
  have := rest_best (n := ps.length - s1) (s1 := s1) (C := cC ps wd ind) (C' := cC (ps.drop s1) (wd - ind) 0) (G := gG ps wd ind) (G' := gG (ps.drop s1) (wd - ind) 0) (d := pnAt ps s1) (fun i _ => gG_one ps wd ind i)
    (fun i j => by unfold gG; rw [hw, hw', leg_drop]) (by omega)
    (fun i j hij hj => by
      unfold cC demV
      rw [hw, hw', bad_drop (by omega), pn_drop, if_pos (by omega : 0 < s1 + i)]
      by_cases e : i = 0
      · subst e; rw [if_neg (by omega), if_pos rfl, Nat.add_zero]; omega
      · rw [if_pos (by omega : 0 < i), if_neg e]; omega)
  rw [hn] at this
  unfold bestP bestT
  rw [List.length_drop]
  exact this
end Go.Proofs.Ytkamffjncndabaa
