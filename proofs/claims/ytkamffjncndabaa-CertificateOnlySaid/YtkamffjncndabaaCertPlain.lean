/- Plain laws on potentials: no program in sight. -/
import Derived.Test.YtkamffjncndabaaBrkPick
namespace Go.Proofs.Ytkamffjncndabaa
/-- The least potential of a piece. -/
def pT (ps : List Pc) (wd ind : Int) (i : Nat) : Int := (tailT ps.length (cC ps wd ind) (gG ps wd ind) i).dm
def potL (ps : List Pc) (wd ind : Int) : List Int := (List.range (ps.length + 1)).map (pT ps wd ind)
theorem potL_len (ps : List Pc) (wd ind : Int) : (potL ps wd ind).length = ps.length + 1 := by simp [potL]
theorem potL_at (ps : List Pc) (wd ind : Int) {k : Nat} (hk : k ≤ ps.length) : lAt (potL ps wd ind) k = pT ps wd ind k := by simp [lAt, potL, List.getD, show k < ps.length + 1 by omega]
theorem pT_end (ps : List Pc) (wd ind : Int) : pT ps wd ind ps.length = 0 := by unfold pT; rw [tailT_end]
theorem pT_le (ps : List Pc) (wd ind : Int) {i j : Nat} (hi : i < j) (hj : j ≤ ps.length) (hg : gG ps wd ind i j = true) : pT ps wd ind i ≤ cC ps wd ind i j + pT ps wd ind j := by
  have hG : ∀ i, i < ps.length → gG ps wd ind i (i + 1) = true := fun i _ => gG_one ps wd ind i
  have hs := ext_spec (n := ps.length) (C := cC ps wd ind) (G := gG ps wd ind) (T := tailT ps.length (cC ps wd ind) (gG ps wd ind)) (i := i) (ps.length - i) (by omega)
  rw [← tailT_eq (show i < ps.length by omega)] at hs
  have hc : Cand (gG ps wd ind) (tailT ps.length (cC ps wd ind) (gG ps wd ind)) i (ps.length - i) j := ⟨hi, by omega, hg, (best_of (C := cC ps wd ind) hG hj).1⟩
  rcases hs with ⟨_, hno⟩ | ⟨_, _, _, hall⟩
  · exact absurd hc (hno j)
  · unfold pT
    rcases hall j hc with h | ⟨h, _⟩ <;> omega
theorem pT_eq (ps : List Pc) (wd ind : Int) {i : Nat} (hi : i < ps.length) : ∃ j, i < j ∧ j ≤ ps.length ∧ gG ps wd ind i j = true ∧ pT ps wd ind i = cC ps wd ind i j + pT ps wd ind j ∧ j = (tailT ps.length (cC ps wd ind) (gG ps wd ind) i).en := by
  have hG : ∀ i, i < ps.length → gG ps wd ind i (i + 1) = true := fun i _ => gG_one ps wd ind i
  have hs := ext_spec (n := ps.length) (C := cC ps wd ind) (G := gG ps wd ind) (T := tailT ps.length (cC ps wd ind) (gG ps wd ind)) (i := i) (ps.length - i) (by omega)
  rw [← tailT_eq hi] at hs
  rcases hs with ⟨_, hno⟩ | ⟨_, hc, hd, _⟩
  · exact absurd ⟨Nat.lt_succ_self i, by omega, hG i hi, (best_of (C := cC ps wd ind) hG (show i + 1 ≤ ps.length by omega)).1⟩ (hno (i + 1))
  · exact ⟨_, hc.1, by have := hc.2.1; omega, hc.2.2.1, hd, rfl⟩
theorem pT_bound {ps : List Pc} {wd ind : Int} (hv : validB ps = true) (hf : fitsB wd ind = true) {i : Nat} (hi : i ≤ ps.length) : -64000000000 ≤ pT ps wd ind i ∧ pT ps wd ind i ≤ 64000000000 := by
  have h := tails_dm hv hf ps.length (Nat.le_refl _) i hi
  have h64 := (validB_iff.1 hv).1.2
  have e : (tailsF ps.length (cC ps wd ind) (gG ps wd ind) ps.length i).dm = pT ps wd ind i := rfl
  rw [e] at h
  omega

/-! ### One potential, line by line -/
/-- The least of C i j + T j, for the legal lines from i to j = i + 1, .., i + c; the first line counts whatever there is. -/
def potE (C : Nat → Nat → Int) (G : Nat → Nat → Bool) (T : Nat → Int) (i : Nat) (z : Int) : Nat → Int
  | 0 => z
  | c + 1 => if G i (i + 1 + c) = true ∧ (c = 0 ∨ C i (i + 1 + c) + T (i + 1 + c) < potE C G T i z c) then C i (i + 1 + c) + T (i + 1 + c) else potE C G T i z c
theorem potE_spec {C : Nat → Nat → Int} {G : Nat → Nat → Bool} {T : Nat → Int} {i : Nat} {z : Int} (h1 : G i (i + 1) = true) : ∀ c : Nat, 1 ≤ c →
    (∃ j, i < j ∧ j ≤ i + c ∧ G i j = true ∧ potE C G T i z c = C i j + T j) ∧ (∀ j, i < j → j ≤ i + c → G i j = true → potE C G T i z c ≤ C i j + T j)
  | 0, h => by omega
  | 1, _ => by
    have e : potE C G T i z 1 = C i (i + 1) + T (i + 1) := by
      show (if G i (i + 1 + 0) = true ∧ _ then _ else _) = _
      rw [if_pos ⟨h1, .inl rfl⟩]
    rw [e]
    exact ⟨⟨i + 1, by omega, by omega, h1, rfl⟩, fun j a b _ => by obtain rfl : j = i + 1 := by omega
                                                                   exact Int.le_refl _⟩
  | c + 2, _ => by
    obtain ⟨⟨j, a, b, g, e⟩, h2⟩ := potE_spec (C := C) (G := G) (T := T) (i := i) (z := z) h1 (c + 1) (by omega)
    have e2 : potE C G T i z (c + 2) = if G i (i + 1 + (c + 1)) = true ∧ (c + 1 = 0 ∨ C i (i + 1 + (c + 1)) + T (i + 1 + (c + 1)) < potE C G T i z (c + 1)) then C i (i + 1 + (c + 1)) + T (i + 1 + (c + 1)) else potE C G T i z (c + 1) := rfl
    rw [e2]
    split
    · rename_i hc
      refine ⟨⟨i + 1 + (c + 1), by omega, by omega, hc.1, rfl⟩, fun j' a' b' g' => ?_⟩
      by_cases e3 : j' = i + 1 + (c + 1)
      · subst e3; exact Int.le_refl _
      · have := h2 j' a' (by omega) g'
        rcases hc.2 with h | h
        · omega
        · omega
    · rename_i hc
      refine ⟨⟨j, a, by omega, g, e⟩, fun j' a' b' g' => ?_⟩
      by_cases e3 : j' = i + 1 + (c + 1)
      · subst e3
        by_cases hlt : C i (i + 1 + (c + 1)) + T (i + 1 + (c + 1)) < potE C G T i z (c + 1)
        · exact absurd ⟨g', .inr hlt⟩ hc
        · omega
      · exact h2 j' a' (by omega) g'
theorem potE_pT {ps : List Pc} {wd ind : Int} {T : Nat → Int} {i : Nat} {z : Int} (hi : i < ps.length) (hT : ∀ j, i < j → j ≤ ps.length → T j = pT ps wd ind j) : potE (cC ps wd ind) (gG ps wd ind) T i z (ps.length - i) = pT ps wd ind i := by
  obtain ⟨⟨j, a, b, g, e⟩, h2⟩ := potE_spec (C := cC ps wd ind) (G := gG ps wd ind) (T := T) (i := i) (z := z) (gG_one ps wd ind i) (ps.length - i) (by omega)
  obtain ⟨k, a', b', g', e', _⟩ := pT_eq ps wd ind hi
  have h3 := h2 k a' (by omega) g'
  have h4 := pT_le ps wd ind a (show j ≤ ps.length by omega) g
  rw [hT j a (by omega)] at e
  rw [hT k a' b'] at h3
  omega

/-! ### Sound potentials -/
def SoundP (ps : List Pc) (wd ind : Int) (l : List Int) : Prop :=
  l.length = ps.length + 1 ∧ lAt l ps.length = 0 ∧ (∀ k, k < l.length → -1099511627776 ≤ lAt l k ∧ lAt l k ≤ 1099511627776) ∧
    ∀ i j, i < j → j ≤ ps.length → gG ps wd ind i j = true → lAt l i ≤ cC ps wd ind i j + lAt l j
theorem sound_least {ps : List Pc} {wd ind : Int} (hv : validB ps = true) (hf : fitsB wd ind = true) : SoundP ps wd ind (potL ps wd ind) := by
  refine ⟨potL_len _ _ _, by rw [potL_at _ _ _ (Nat.le_refl _), pT_end], fun k hk => ?_, fun i j hi hj hg => ?_⟩
  · rw [potL_len] at hk
    rw [potL_at _ _ _ (by omega)]
    have := pT_bound hv hf (i := k) (by omega)
    omega
  · rw [potL_at _ _ _ (by omega), potL_at _ _ _ hj]
    exact pT_le ps wd ind hi hj hg
/-- No sound potentials are greater. -/
theorem sound_le {ps : List Pc} {wd ind : Int} {l : List Int} (h : SoundP ps wd ind l) : ∀ (d i : Nat), i ≤ ps.length → ps.length - i ≤ d → lAt l i ≤ pT ps wd ind i
  | 0, i, hi, hd => by
    obtain rfl : i = ps.length := by omega
    rw [h.2.1, pT_end]
    exact Int.le_refl _
  | d + 1, i, hi, hd => by
    by_cases hlt : i < ps.length
    · obtain ⟨j, a, b, g, e, _⟩ := pT_eq ps wd ind hlt
      have := h.2.2.2 i j a b g
      have := sound_le h d j b (by omega)
      omega
    · exact sound_le h d i hi (by omega)
/-! ### Starts that potentials prove -/
def TightP (ps : List Pc) (wd ind : Int) (st l : List Int) : Prop :=
  ∀ k, k < st.length → gG ps wd ind (lAt st k).toNat (endAt ps.length st k).toNat = true ∧ lAt l (lAt st k).toNat = cC ps wd ind (lAt st k).toNat (endAt ps.length st k).toNat + lAt l (endAt ps.length st k).toNat
theorem wid_same {ps : List Pc} {wd ind : Int} {st : List Int} (hs : startsB ps.length st = true) {k : Nat} (hk : k < st.length) : widAt wd ind k = widAt wd ind (lAt st k).toNat := by
  have h0 := (startsB_iff.1 hs).2.1
  have h1 := st_ge hs hk
  unfold widAt
  by_cases e : k = 0
  · subst e; rw [if_pos rfl, if_pos (by omega)]
  · rw [if_neg e, if_neg (by omega)]
theorem line_same {ps : List Pc} {wd ind : Int} {st : List Int} (hs : startsB ps.length st = true) {k : Nat} (hk : k < st.length) :
    demV ps (lAt st k).toNat (endAt ps.length st k).toNat (widAt wd ind k) = cC ps wd ind (lAt st k).toNat (endAt ps.length st k).toNat ∧ legV ps (lAt st k).toNat (endAt ps.length st k).toNat (widAt wd ind k) = gG ps wd ind (lAt st k).toNat (endAt ps.length st k).toNat := by
  rw [wid_same (wd := wd) (ind := ind) hs hk]
  exact ⟨rfl, rfl⟩
theorem totL_all {ps : List Pc} {st : List Int} {wd ind : Int} (hs : startsB ps.length st = true) : ∀ m, m ≤ st.length → (totL ps st wd ind m = true ↔ ∀ k, k < m → gG ps wd ind (lAt st k).toNat (endAt ps.length st k).toNat = true)
  | 0, _ => ⟨fun _ k hk => by omega, fun _ => rfl⟩
  | m + 1, hm => by
    have ih := totL_all (wd := wd) (ind := ind) hs m (by omega)
    have e : totL ps st wd ind (m + 1) = (totL ps st wd ind m && legV ps (lAt st m).toNat (endAt ps.length st m).toNat (widAt wd ind m)) := rfl
    rw [e, (line_same hs (show m < st.length by omega)).2, Bool.and_eq_true, ih]
    constructor
    · rintro ⟨h1, h2⟩ k hk
      by_cases e : k = m
      · subst e; exact h2
      · exact h1 k (by omega)
    · intro h
      exact ⟨fun k hk => h k (by omega), h m (by omega)⟩
/-- The sum of the demerits of legal lines is at least the first potential minus the last one; and just so much, if they are tight. -/
theorem tot_ge {ps : List Pc} {st l : List Int} {wd ind : Int} (hs : startsB ps.length st = true) (hl : SoundP ps wd ind l) (hg : ∀ k, k < st.length → gG ps wd ind (lAt st k).toNat (endAt ps.length st k).toNat = true) :
    ∀ m, 1 ≤ m → m ≤ st.length → lAt l 0 ≤ totS ps st wd ind m + lAt l (endAt ps.length st (m - 1)).toNat ∧ ((∀ k, k < m → lAt l (lAt st k).toNat = cC ps wd ind (lAt st k).toNat (endAt ps.length st k).toNat + lAt l (endAt ps.length st k).toNat) → lAt l 0 = totS ps st wd ind m + lAt l (endAt ps.length st (m - 1)).toNat)
  | 0, h, _ => by omega
  | m + 1, _, hm => by
    have hk : m < st.length := by omega
    have e : totS ps st wd ind (m + 1) = totS ps st wd ind m + demV ps (lAt st m).toNat (endAt ps.length st m).toNat (widAt wd ind m) := rfl
    have h3 := st_end hs hk
    have h4 := st_ge hs hk
    have h5 := hl.2.2.2 (lAt st m).toNat (endAt ps.length st m).toNat (by omega) (by omega) (hg m hk)
    rw [e, (line_same hs hk).1, Nat.add_sub_cancel]
    by_cases h0 : m = 0
    · subst h0
      have h6 := (startsB_iff.1 hs).2.1
      rw [h6] at h5 ⊢
      have e0 : totS ps st wd ind 0 = 0 := rfl
      rw [e0]
      refine ⟨by simpa using h5, fun ht => ?_⟩
      have := ht 0 (by omega)
      rw [h6] at this
      simpa using this
    · obtain ⟨i1, i2⟩ := tot_ge hs hl hg m (by omega) (by omega)
      have e6 : endAt ps.length st (m - 1) = lAt st m := by
        rw [end_more (by omega)]
        congr 1
        omega
      rw [e6] at i1 i2
      refine ⟨by omega, fun ht => ?_⟩
      have := i2 (fun k hk => ht k (by omega))
      have := ht m (by omega)
      omega
theorem proves_law {ps : List Pc} {st l : List Int} {wd ind : Int} (hp : parB ps wd ind = true) (hl : SoundP ps wd ind l) (he : totE ps st wd ind = 0) :
    lAt l 0 ≤ totN ps st wd ind ∧ (TightP ps wd ind st l → lAt l 0 = totN ps st wd ind) := by
  obtain ⟨hv, hf⟩ := parB_iff.1 hp
  have hs : startsB ps.length st = true := by
    cases hs : startsB ps.length st with
    | true => rfl
    | false => unfold totE at he; rw [if_pos ⟨hv, hf⟩, if_neg (by rw [hs]; simp)] at he; cases he
  have hL : totL ps st wd ind st.length = true := by
    cases hL : totL ps st wd ind st.length with
    | true => rfl
    | false => unfold totE at he; rw [if_pos ⟨hv, hf⟩, if_pos hs, if_neg (by rw [hL]; simp)] at he; cases he
  have hN : totN ps st wd ind = totS ps st wd ind st.length := by unfold totN; rw [if_pos he]
  have h0 := (startsB_iff.1 hs).1
  obtain ⟨h1, h2⟩ := tot_ge hs hl ((totL_all hs _ (Nat.le_refl _)).1 hL) st.length (by omega) (Nat.le_refl _)
  have e : endAt ps.length st (st.length - 1) = ps.length := end_last (by omega)
  rw [e, Int.toNat_natCast, hl.2.1] at h1 h2
  rw [hN]
  exact ⟨by omega, fun ht => by have := h2 (fun k hk => (ht k hk).2); omega⟩
/-- Starts that are accepted are legal. -/
theorem tight_legal {ps : List Pc} {st l : List Int} {wd ind : Int} (hp : parB ps wd ind = true) (hs : startsB ps.length st = true) (ht : TightP ps wd ind st l) : totE ps st wd ind = 0 := by
  obtain ⟨hv, hf⟩ := parB_iff.1 hp
  exact (tot_yes hv hf hs ((totL_all hs _ (Nat.le_refl _)).2 (fun k hk => (ht k hk).1))).1
/-- Legal starts with the least demerits are tight for the least potentials. -/
theorem tight_of_least {ps : List Pc} {st : List Int} {wd ind : Int} (hp : parB ps wd ind = true) (he : totE ps st wd ind = 0) (hN : totN ps st wd ind = pT ps wd ind 0) : startsB ps.length st = true ∧ TightP ps wd ind st (potL ps wd ind) := by
  obtain ⟨hv, hf⟩ := parB_iff.1 hp
  have hs : startsB ps.length st = true := by
    cases hs : startsB ps.length st with
    | true => rfl
    | false => unfold totE at he; rw [if_pos ⟨hv, hf⟩, if_neg (by rw [hs]; simp)] at he; cases he
  have hL : totL ps st wd ind st.length = true := by
    cases hL : totL ps st wd ind st.length with
    | true => rfl
    | false => unfold totE at he; rw [if_pos ⟨hv, hf⟩, if_pos hs, if_neg (by rw [hL]; simp)] at he; cases he
  have hN' : totN ps st wd ind = totS ps st wd ind st.length := by unfold totN; rw [if_pos he]
  have hg := (totL_all (wd := wd) (ind := ind) hs _ (Nat.le_refl _)).1 hL
  have h0 := (startsB_iff.1 hs).1
  refine ⟨hs, ?_⟩
  -- what is left from line k on is at least the potential there
  have key : ∀ d m, m + d = st.length → pT ps wd ind (endAt ps.length st (m - 1)).toNat ≤ totS ps st wd ind st.length - totS ps st wd ind m ∨ m = 0 := by
    intro d
    induction d with
    | zero =>
      intro m hm
      by_cases h : m = 0
      · exact .inr h
      · left
        obtain rfl : m = st.length := by omega
        rw [end_last (by omega), Int.toNat_natCast, pT_end]
        omega
    | succ d ih =>
      intro m hm
      by_cases h : m = 0
      · exact .inr h
      · left
        have hk : m < st.length := by omega
        have h3 := st_end hs hk
        have h4 := st_ge hs hk
        have e : totS ps st wd ind (m + 1) = totS ps st wd ind m + demV ps (lAt st m).toNat (endAt ps.length st m).toNat (widAt wd ind m) := rfl
        rw [(line_same hs hk).1] at e
        have e6 : endAt ps.length st (m - 1) = lAt st m := by rw [end_more (by omega)]; congr 1; omega
        have h5 := pT_le ps wd ind (i := (lAt st m).toNat) (j := (endAt ps.length st m).toNat) (by omega) (by omega) (hg m hk)
        rw [e6]
        rcases ih (m + 1) (by omega) with h6 | h6
        · rw [Nat.add_sub_cancel] at h6
          omega
        · omega
  have sl := sound_least hv hf
  intro k hk
  refine ⟨hg k hk, ?_⟩
  have h3 := st_end hs hk
  have h4 := st_ge hs hk
  rw [potL_at _ _ _ (by omega), potL_at _ _ _ (by omega)]
  have h5 := pT_le ps wd ind (i := (lAt st k).toNat) (j := (endAt ps.length st k).toNat) (by omega) (by omega) (hg k hk)
  have e : totS ps st wd ind (k + 1) = totS ps st wd ind k + demV ps (lAt st k).toNat (endAt ps.length st k).toNat (widAt wd ind k) := rfl
  rw [(line_same hs hk).1] at e
  have h6 : pT ps wd ind (endAt ps.length st k).toNat ≤ totS ps st wd ind st.length - totS ps st wd ind (k + 1) := by
    rcases key (st.length - (k + 1)) (k + 1) (by omega) with h | h
    · rw [Nat.add_sub_cancel] at h; exact h
    · omega
  have h7 : pT ps wd ind 0 ≤ totS ps st wd ind k + pT ps wd ind (lAt st k).toNat := by
    by_cases h : k = 0
    · subst h
      rw [(startsB_iff.1 hs).2.1]
      show _ ≤ 0 + _
      simp
    · have := (tot_ge hs sl hg k (by omega) (by omega)).1
      have e6 : endAt ps.length st (k - 1) = lAt st k := by rw [end_more (by omega)]; congr 1; omega
      rw [e6, potL_at _ _ _ (Nat.zero_le _), potL_at _ _ _ (by omega)] at this
      exact this
  rw [hN'] at hN
  omega
end Go.Proofs.Ytkamffjncndabaa
