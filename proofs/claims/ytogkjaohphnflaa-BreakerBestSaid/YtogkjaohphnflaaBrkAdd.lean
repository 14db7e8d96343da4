/- Plain laws: pieces whose penalties have all grown by one number. -/
import Derived.Test.YtogkjaohphnflaaBrkFew
import Derived.Test.YtogkjaohphnflaaBrkTails
namespace Go.Proofs.Ytogkjaohphnflaa
/-- The first k pieces' penalties have grown by d. -/
def addPn (ps : List Pc) (d : Int) (k : Nat) : List Pc := (ps.take k).map (fun p => ⟨p.wd, p.sp, p.pn + d⟩) ++ ps.drop k
theorem addPn_len (ps : List Pc) (d : Int) (k : Nat) : (addPn ps d k).length = ps.length := by
  unfold addPn
  simp only [List.length_append, List.length_map, List.length_take, List.length_drop]
  omega
theorem addPn_at (ps : List Pc) (d : Int) (k m : Nat) (hm : m < ps.length) : (addPn ps d k).getD m ⟨0, 0, 0⟩ = if m < k then ⟨wdAt ps m, spAt ps m, pnAt ps m + d⟩ else ps.getD m ⟨0, 0, 0⟩ := by
  have e : ps.getD m ⟨0, 0, 0⟩ = ps[m] := by simp [List.getD, hm]
  unfold addPn
  by_cases h : m < k
  · rw [if_pos h]
    have h1 : m < ((ps.take k).map (fun p => (⟨p.wd, p.sp, p.pn + d⟩ : Pc))).length := by simp; omega
    unfold wdAt spAt pnAt
    rw [e]
    rw [List.getD, List.getElem?_append_left h1, List.getElem?_map, List.getElem?_take, if_pos h, List.getElem?_eq_getElem hm]
    rfl
  · rw [if_neg h]
    have h1 : ((ps.take k).map (fun p => (⟨p.wd, p.sp, p.pn + d⟩ : Pc))).length ≤ m := by simp; omega
    have h2 : ((ps.take k).map (fun p => (⟨p.wd, p.sp, p.pn + d⟩ : Pc))).length = k := by simp; omega
    rw [e]
    simp only [List.getD, List.getElem?_append_right h1, List.getElem?_drop, h2]
    rw [show k + (m - k) = m by omega]
    simp [hm]
theorem addPn_wd (ps : List Pc) (d : Int) (k m : Nat) (hm : m < ps.length) : wdAt (addPn ps d k) m = wdAt ps m ∧ spAt (addPn ps d k) m = spAt ps m ∧ pnAt (addPn ps d k) m = pnAt ps m + if m < k then d else 0 := by
  have h := addPn_at ps d k m hm
  unfold wdAt spAt pnAt at *
  rw [h]
  split
  · exact ⟨rfl, rfl, rfl⟩
  · exact ⟨rfl, rfl, (Int.add_zero _).symm⟩
theorem addPn_zero (ps : List Pc) (d : Int) : addPn ps d 0 = ps := by simp [addPn]
/-- All penalties have grown by d. -/
def addAll (ps : List Pc) (d : Int) : List Pc := addPn ps d ps.length
theorem addAll_len (ps : List Pc) (d : Int) : (addAll ps d).length = ps.length := addPn_len _ _ _
theorem lenR_add (ps : List Pc) (d : Int) (i : Nat) : ∀ c : Nat, i + c ≤ ps.length → lenR (addAll ps d) i c = lenR ps i c
  | 0, _ => rfl
  | c + 1, hc => by
    have ih := lenR_add ps d i c (by omega)
    obtain ⟨h1, h2, _⟩ := addPn_wd ps d ps.length (i + c) (by omega)
    unfold lenR
    rw [ih]
    unfold addAll
    rw [h1, h2]
theorem lenL_add (ps : List Pc) (d : Int) {i j : Nat} (h : i ≤ j) (hj : j ≤ ps.length) : lenL (addAll ps d) i j = lenL ps i j := lenR_add ps d i (j - i) (by omega)
theorem gG_add (ps : List Pc) (d w ind : Int) {i j : Nat} (h : i < j) (hj : j ≤ ps.length) : gG (addAll ps d) w ind i j = gG ps w ind i j := by
  unfold gG legV
  rw [lenL_add ps d (by omega) hj]
theorem cC_add (ps : List Pc) (d w ind : Int) {i j : Nat} (h : i < j) (hj : j ≤ ps.length) : cC (addAll ps d) w ind i j = cC ps w ind i j + if 0 < i then d else 0 := by
  have hp := (addPn_wd ps d ps.length i (by omega)).2.2
  rw [if_pos (by omega)] at hp
  unfold cC demV badV
  rw [lenL_add ps d (by omega) hj, addAll_len]
  unfold addAll
  rw [hp]
  split <;> omega
theorem ext_cong {n : Nat} {C C' : Nat → Nat → Int} {G G' : Nat → Nat → Bool} {T T' : Nat → Tl} {i : Nat} (hC : ∀ j, i < j → j ≤ n → C i j = C' i j) (hG : ∀ j, i < j → j ≤ n → G i j = G' i j) (hT : ∀ j, i < j → j ≤ n → T j = T' j) :
    ∀ c : Nat, i + c ≤ n → ext n C G T i c = ext n C' G' T' i c
  | 0, _ => rfl
  | c + 1, hc => by
    have ih := ext_cong hC hG hT c (by omega)
    unfold ext
    rw [ih, hC (i + 1 + c) (by omega) (by omega), hG (i + 1 + c) (by omega) (by omega), hT (i + 1 + c) (by omega) (by omega)]
theorem tailsC_cong {n : Nat} {C C' : Nat → Nat → Int} {G G' : Nat → Nat → Bool} (hC : ∀ i j, i < j → j ≤ n → C i j = C' i j) (hG : ∀ i j, i < j → j ≤ n → G i j = G' i j) : ∀ (c i : Nat), tailsC n C G c i = tailsC n C' G' c i
  | 0, _ => rfl
  | c + 1, i => by
    show (if i < n then ext n C G (tailsC n C G c) i (n - i) else noTl) = (if i < n then ext n C' G' (tailsC n C' G' c) i (n - i) else noTl)
    split
    · exact ext_cong (hC i) (hG i) (fun j _ _ => tailsC_cong hC hG c j) _ (by omega)
    · rfl
theorem pathC_cong {n : Nat} {C C' : Nat → Nat → Int} {G G' : Nat → Nat → Bool} (hC : ∀ i j, i < j → j ≤ n → C i j = C' i j) (hG : ∀ i j, i < j → j ≤ n → G i j = G' i j) : ∀ (c i : Nat), pathC n C G c i = pathC n C' G' c i
  | 0, _ => rfl
  | c + 1, i => by
    show i :: pathC n C G c (tailsC n C G (c + 1) i).en = i :: pathC n C' G' c (tailsC n C' G' (c + 1) i).en
    rw [tailsC_cong hC hG, pathC_cong hC hG]
/-- The best tail with k lines from piece i on, and its starts. -/
def kT (ps : List Pc) (wd ind : Int) (k i : Nat) : Tl := tailsC ps.length (cC ps wd ind) (gG ps wd ind) k i
def kP (ps : List Pc) (wd ind : Int) (k i : Nat) : List Nat := pathC ps.length (cC ps wd ind) (gG ps wd ind) k i
theorem kP_len (ps : List Pc) (wd ind : Int) : ∀ (k i : Nat), (kP ps wd ind k i).length = k
  | 0, _ => rfl
  | k + 1, i => by
    show (i :: kP ps wd ind k _).length = k + 1
    rw [List.length_cons, kP_len]
/-- The law of BreakerPenalties. -/
theorem penalties_law (ps : List Pc) (d wd ind : Int) {k : Nat} (hk : 1 ≤ k) :
    (kT (addAll ps d) wd ind k 0).th = (kT ps wd ind k 0).th ∧ ((kT ps wd ind k 0).th = true → (kT (addAll ps d) wd ind k 0).dm = (kT ps wd ind k 0).dm + d * ((k : Int) - 1) ∧ kP (addAll ps d) wd ind k 0 = kP ps wd ind k 0) := by
  have hC : ∀ i j, i < j → j ≤ ps.length → cC (addAll ps d) wd ind i j = cC ps wd ind i j + if 0 < i then d else 0 := fun i j h hj => cC_add ps d wd ind h hj
  have hG : ∀ i j, i < j → j ≤ ps.length → gG (addAll ps d) wd ind i j = gG ps wd ind i j := fun i j h hj => gG_add ps d wd ind h hj
  have eT : kT (addAll ps d) wd ind k 0 = tailsC ps.length (cC (addAll ps d) wd ind) (gG ps wd ind) k 0 := by
    unfold kT
    rw [addAll_len]
    exact tailsC_cong (fun _ _ _ _ => rfl) hG k 0
  have eP : kP (addAll ps d) wd ind k 0 = pathC ps.length (cC (addAll ps d) wd ind) (gG ps wd ind) k 0 := by
    unfold kP
    rw [addAll_len]
    exact pathC_cong (fun _ _ _ _ => rfl) hG k 0
  have hs := counted_shift (G := gG ps wd ind) hC k 0 (Nat.zero_le _) (.inr (by omega))
  rw [if_neg (by omega)] at hs
  rw [eT, eP]
  refine ⟨hs.1, fun h => ⟨?_, pathC_shift hC k 0 (Nat.zero_le _) h⟩⟩
  rw [(hs.2 h).1]
  show (kT ps wd ind k 0).dm + _ = _
  rw [Int.mul_sub, Int.mul_one]
end Go.Proofs.Ytogkjaohphnflaa
