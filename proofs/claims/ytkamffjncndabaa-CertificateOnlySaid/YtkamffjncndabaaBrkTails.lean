/- The cells of the tails, and plain words for Best's walk. -/
import Derived.Test.YtkamffjncndabaaBrkExt
import Derived.Laws.MakeOwn
namespace Go.Proofs.Ytkamffjncndabaa
open Go.RowKit
def TlsC (cs : Array Value) (n : Nat) (T : Nat → Tl) : Prop := ∀ k, k ≤ n → cs[k * 3]? = some (.bool (T k).th) ∧ cs[k * 3 + 1]? = some (.int .i64 (T k).dm) ∧ cs[k * 3 + 2]? = some (.int .i64 ((T k).en : Int))
def zeroTl : Array Value := #[.bool false, .int .i64 0, .int .i64 0]
theorem tlsC_made (n : Nat) : TlsC (madeCells zeroTl ((n + 1) * 3)) n (fun _ => noTl) := fun k hk => by
  refine ⟨?_, ?_, ?_⟩
  · simp [madeCells, zeroTl, noTl, show k * 3 < (n + 1) * 3 by omega]
  · simp [madeCells, zeroTl, noTl, show k * 3 + 1 < (n + 1) * 3 by omega, show (k * 3 + 1) % 3 = 1 by omega]
  · simp [madeCells, zeroTl, noTl, show k * 3 + 2 < (n + 1) * 3 by omega, show (k * 3 + 2) % 3 = 2 by omega]
theorem tlsC_congr {cs : Array Value} {n : Nat} {T T' : Nat → Tl} (h : TlsC cs n T) (e : ∀ k, k ≤ n → T k = T' k) : TlsC cs n T' := fun k hk => by rw [← e k hk]; exact h k hk
theorem tlsC_set {cs : Array Value} {n j : Nat} {T : Nat → Tl} (h : TlsC cs n T) (hj : j ≤ n) (t : Tl) :
    TlsC (((cs.setIfInBounds (j * 3) (.bool t.th)).setIfInBounds (j * 3 + 1) (.int .i64 t.dm)).setIfInBounds (j * 3 + 2) (.int .i64 (t.en : Int))) n (fun k => if k = j then t else T k) := fun k hk => by
  obtain ⟨h0, h1, h2⟩ := h k hk
  have b0 := (Array.getElem?_eq_some_iff.1 h0).1
  have b1 := (Array.getElem?_eq_some_iff.1 h1).1
  have b2 := (Array.getElem?_eq_some_iff.1 h2).1
  simp only [Array.getElem?_setIfInBounds, Array.size_setIfInBounds]
  by_cases e : k = j
  · subst e
    refine ⟨?_, ?_, ?_⟩
    · rw [if_neg (by omega), if_neg (by omega), if_pos rfl, if_pos b0, if_pos rfl]
    · rw [if_neg (by omega), if_pos rfl, if_pos b1, if_pos rfl]
    · rw [if_pos rfl, if_pos b2, if_pos rfl]
  · refine ⟨?_, ?_, ?_⟩
    · rw [if_neg (by omega), if_neg (by omega), if_neg (by omega), if_neg e]; exact h0
    · rw [if_neg (by omega), if_neg (by omega), if_neg (by omega), if_neg e]; exact h1
    · rw [if_neg (by omega), if_neg (by omega), if_neg (by omega), if_neg e]; exact h2
theorem tlsC_end {cs : Array Value} {n : Nat} (h : TlsC cs n (fun _ => noTl)) : TlsC (cs.setIfInBounds (n * 3) (.bool true)) n (tails0 n) := fun k hk => by
  obtain ⟨h0, h1, h2⟩ := h k hk
  have b0 := (Array.getElem?_eq_some_iff.1 h0).1
  unfold tails0
  simp only [Array.getElem?_setIfInBounds]
  by_cases e : k = n
  · subst e
    refine ⟨?_, ?_, ?_⟩
    · rw [if_pos rfl, if_pos b0, if_pos rfl]
    · rw [if_neg (by omega), if_pos rfl]; exact h1
    · rw [if_neg (by omega), if_pos rfl]; exact h2
  · refine ⟨?_, ?_, ?_⟩
    · rw [if_neg (by omega), if_neg e]; exact h0
    · rw [if_neg (by omega), if_neg e]; exact h1
    · rw [if_neg (by omega), if_neg e]; exact h2
theorem tls_of {W : World} {b n B : Nat} {cs : Array Value} {t : TypeId} {T : Nat → Tl} (h : W.heap[b]? = some (.cells cs t (0, 0))) (hc : TlsC cs n T) (hb : b < B) : Tls W B (some ⟨b, 0, none⟩) n T :=
  ⟨b, 0, rfl, hb, fun k hk => by
    obtain ⟨h0, h1, h2⟩ := hc k hk
    rw [Nat.zero_add]
    exact ⟨blk_cell h _ _ h0, blk_cell h _ _ h1, blk_cell h _ _ h2⟩⟩
theorem ext_dm {n : Nat} {C : Nat → Nat → Int} {G : Nat → Nat → Bool} {T : Nat → Tl} {i : Nat} {M K : Int} (hM : ∀ j, j ≤ n → -M ≤ (T j).dm ∧ (T j).dm ≤ M) (hC : ∀ j, i < j → j ≤ n → -K ≤ C i j ∧ C i j ≤ K) (h0 : 0 ≤ M + K) :
    ∀ c : Nat, i + c ≤ n → -(M + K) ≤ (ext n C G T i c).dm ∧ (ext n C G T i c).dm ≤ M + K
  | 0, _ => ⟨by show _ ≤ (0 : Int); omega, h0⟩
  | c + 1, hc => by
    have ih := ext_dm hM hC h0 (G := G) c (by omega)
    have h1 := hM (i + 1 + c) (by omega)
    have h2 := hC (i + 1 + c) (by omega) (by omega)
    have hb : ∀ a b : Tl, better n a b = a ∨ better n a b = b := fun a b => by
      unfold better
      split
      · exact .inr rfl
      · split
        · exact .inl rfl
        · split
          · exact .inr rfl
          · split
            · exact .inl rfl
            · exact .inr rfl
    unfold ext
    split
    · rcases hb (ext n C G T i c) ⟨true, C i (i + 1 + c) + (T (i + 1 + c)).dm, i + 1 + c⟩ with h | h
      · rw [h]; exact ih
      · rw [h]; exact ⟨by show _ ≤ C i (i + 1 + c) + (T (i + 1 + c)).dm; omega, by show C i (i + 1 + c) + (T (i + 1 + c)).dm ≤ _; omega⟩
    · exact ih
theorem cC_bound {ps : List Pc} {wd ind : Int} (hv : validB ps = true) (hf : fitsB wd ind = true) {i j : Nat} (hi : i < ps.length) (hj : j ≤ ps.length) : -1000000000 ≤ cC ps wd ind i j ∧ cC ps wd ind i j ≤ 1000000000 := by
  have := demV_bound hv hi hj (widAt_bound hf i).1 (widAt_bound hf i).2
  unfold cC
  omega
theorem tails_dm {ps : List Pc} {wd ind : Int} (hv : validB ps = true) (hf : fitsB wd ind = true) : ∀ d : Nat, d ≤ ps.length → ∀ j, j ≤ ps.length →
    -(1000000000 * (d : Int)) ≤ (tailsF ps.length (cC ps wd ind) (gG ps wd ind) d j).dm ∧ (tailsF ps.length (cC ps wd ind) (gG ps wd ind) d j).dm ≤ 1000000000 * (d : Int)
  | 0, _, j, _ => by
    show -(1000000000 * ((0 : Nat) : Int)) ≤ (tails0 ps.length j).dm ∧ (tails0 ps.length j).dm ≤ _
    unfold tails0
    split <;> simp [noTl]
  | d + 1, hd, j, hj => by
    have ih := tails_dm hv hf d (by omega)
    show _ ≤ (if j = ps.length - 1 - d then _ else _ : Tl).dm ∧ (if j = ps.length - 1 - d then _ else _ : Tl).dm ≤ _
    split
    · have := ext_dm (G := gG ps wd ind) (i := j) ih (fun k _ hk => cC_bound hv hf (i := j) (by omega) hk) (by omega) (ps.length - j) (by omega)
      omega
    · have := ih j hj
      omega
theorem tails_TB {ps : List Pc} {wd ind : Int} (hv : validB ps = true) (hf : fitsB wd ind = true) {d : Nat} (hd : d ≤ ps.length) : TB (tailsF ps.length (cC ps wd ind) (gG ps wd ind) d) ps.length := fun j hj => by
  have := tails_dm hv hf d hd j hj
  have := (validB_iff.1 hv).1.2
  omega
/-- The best starts. -/
def bestP (ps : List Pc) (wd ind : Int) : List Nat := pathT ps.length (tailT ps.length (cC ps wd ind) (gG ps wd ind)) 0
def bestT (ps : List Pc) (wd ind : Int) : Tl := tailT ps.length (cC ps wd ind) (gG ps wd ind) 0
theorem path_step {n : Nat} {C : Nat → Nat → Int} {G : Nat → Nat → Bool} (hG : ∀ i, i < n → G i (i + 1) = true) {i : Nat} (hi : i < n) :
    pathT n (tailT n C G) i = i :: pathT n (tailT n C G) (tailT n C G i).en := by
  have hen := tail_en (C := C) hG hi
  obtain ⟨P, _, _, h3⟩ := tail_best (C := C) hG (n - (tailT n C G i).en) (tailT n C G i).en hen.2 (Nat.le_refl _)
  unfold pathT
  obtain ⟨f, hf⟩ : ∃ f, n - i = f + 1 := ⟨n - i - 1, by omega⟩
  rw [hf]
  show (if i < n then i :: pathF n (tailT n C G) f (tailT n C G i).en else []) = _
  rw [if_pos hi, h3 f (by omega), h3 _ (Nat.le_refl _)]
theorem path_end (n : Nat) (T : Nat → Tl) : pathT n T n = [] := by unfold pathT; rw [Nat.sub_self]; rfl
theorem isP_len {n : Nat} {G : Nat → Nat → Bool} : ∀ {s : List Nat} {i : Nat}, IsP n G i s → s.length ≤ n - i
  | [], _, _ => Nat.zero_le _
  | _ :: s, _, h => by
    have := isP_len h.2.2.2.2
    have := h.2.1
    have := h.2.2.1
    simp only [List.length_cons]
    omega
end Go.Proofs.Ytkamffjncndabaa
