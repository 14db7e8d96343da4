/- Plain laws on the best ways through a row of lines: no program in sight. -/
namespace Go.Proofs.Ytkamffjncndabaa
/-- A tail: whether there is one, its demerits, the end of its first line. -/
structure Tl where
  th : Bool
  dm : Int
  en : Nat
def noTl : Tl := ⟨false, 0, 0⟩
def better (n : Nat) (a b : Tl) : Tl :=
  if a.th = false then b
  else if b.th = false ∨ a.dm < b.dm then a
  else if b.dm < a.dm ∨ (b.en = n ∧ a.en ≠ n) then b
  else if a.en = n ∨ a.en ≤ b.en then a
  else b
/-- The best of the tails from i on whose first line ends at i + 1, .., i + c. -/
def ext (n : Nat) (C : Nat → Nat → Int) (G : Nat → Nat → Bool) (T : Nat → Tl) (i : Nat) : Nat → Tl
  | 0 => noTl
  | c + 1 => if (G i (i + 1 + c) && (T (i + 1 + c)).th) = true then better n (ext n C G T i c) ⟨true, C i (i + 1 + c) + (T (i + 1 + c)).dm, i + 1 + c⟩ else ext n C G T i c

def rank (n j : Nat) : Nat := if j = n then 0 else j
def Cand (G : Nat → Nat → Bool) (T : Nat → Tl) (i c j : Nat) : Prop :=
  i < j ∧ j ≤ i + c ∧ G i j = true ∧ (T j).th = true

theorem ext_spec {n : Nat} {C : Nat → Nat → Int} {G : Nat → Nat → Bool} {T : Nat → Tl} {i : Nat} : ∀ c : Nat, i + c ≤ n →
    ((ext n C G T i c).th = false ∧ (∀ j : Nat, ¬ Cand G T i c j)) ∨
    ((ext n C G T i c).th = true ∧ Cand G T i c (ext n C G T i c).en ∧ (ext n C G T i c).dm = C i (ext n C G T i c).en + (T (ext n C G T i c).en).dm ∧
      ∀ j, Cand G T i c j → (ext n C G T i c).dm < C i j + (T j).dm ∨ ((ext n C G T i c).dm = C i j + (T j).dm ∧ rank n (ext n C G T i c).en ≤ rank n j))
  | 0, _ => .inl ⟨rfl, fun j h => by have h1 := h.1; have h2 := h.2.1; omega⟩
  | c + 1, hc => by
    have ih := ext_spec (n := n) (C := C) (G := G) (T := T) (i := i) c (by omega)
    have hnew : ∀ j, Cand G T i (c + 1) j ↔ Cand G T i c j ∨ (j = i + 1 + c ∧ G i j = true ∧ (T j).th = true) := by
      intro j
      unfold Cand
      constructor
      · intro h
        by_cases e : j = i + 1 + c
        · exact .inr ⟨e, h.2.2⟩
        · exact .inl ⟨h.1, by omega, h.2.2⟩
      · rintro (h | ⟨e, h⟩)
        · exact ⟨h.1, by omega, h.2.2⟩
        · exact ⟨by omega, by omega, h⟩
    by_cases hg : (G i (i + 1 + c) && (T (i + 1 + c)).th) = true
    · have hg' := (Bool.and_eq_true _ _ ▸ hg : G i (i + 1 + c) = true ∧ (T (i + 1 + c)).th = true)
      have e : ext n C G T i (c + 1) = better n (ext n C G T i c) ⟨true, C i (i + 1 + c) + (T (i + 1 + c)).dm, i + 1 + c⟩ := by
        rw [ext, if_pos hg]
      rw [e]
      generalize ext n C G T i c = a at ih
      right
      rcases ih with ⟨h0, hno⟩ | ⟨h1, hc1, hd1, hall⟩
      · unfold better
        rw [if_pos h0]
        refine ⟨rfl, (hnew _).2 (.inr ⟨rfl, hg'⟩), rfl, fun j hj => ?_⟩
        rcases (hnew j).1 hj with h | ⟨rfl, _⟩
        · exact absurd h (hno j)
        · exact .inr ⟨rfl, Nat.le_refl _⟩
      · have hae : a.en < i + 1 + c := by have := hc1.2.1; omega
        unfold better
        rw [if_neg (by rw [h1]; simp)]
        dsimp only
        by_cases b1 : a.dm < C i (i + 1 + c) + (T (i + 1 + c)).dm
        · rw [if_pos (.inr b1)]
          refine ⟨h1, (hnew _).2 (.inl hc1), hd1, fun j hj => ?_⟩
          rcases (hnew j).1 hj with h | ⟨rfl, _⟩
          · exact hall j h
          · exact .inl b1
        · rw [if_neg (by simp; omega)]
          by_cases b2 : C i (i + 1 + c) + (T (i + 1 + c)).dm < a.dm ∨ (i + 1 + c = n ∧ a.en ≠ n)
          · rw [if_pos b2]
            refine ⟨rfl, (hnew _).2 (.inr ⟨rfl, hg'⟩), rfl, fun j hj => ?_⟩
            dsimp only
            rcases (hnew j).1 hj with h | ⟨rfl, _⟩
            · have := hall j h
              rcases b2 with b2 | ⟨b2, b3⟩
              · left; omega
              · have hr : rank n (i + 1 + c) = 0 := by unfold rank; rw [if_pos b2]
                rw [hr]
                omega
            · exact .inr ⟨rfl, Nat.le_refl _⟩
          · rw [if_neg b2, if_pos (.inr (by omega))]
            refine ⟨h1, (hnew _).2 (.inl hc1), hd1, fun j hj => ?_⟩
            rcases (hnew j).1 hj with h | ⟨rfl, _⟩
            · exact hall j h
            · refine .inr ⟨by omega, ?_⟩
              unfold rank
              split <;> split <;> omega
    · have e : ext n C G T i (c + 1) = ext n C G T i c := by rw [ext, if_neg hg]
      rw [e]
      have hsame : ∀ j, Cand G T i (c + 1) j → Cand G T i c j := fun j hj => by
        rcases (hnew j).1 hj with h | ⟨rfl, h1, h2⟩
        · exact h
        · rw [h1, h2] at hg; exact absurd rfl hg
      rcases ih with ⟨h0, hno⟩ | ⟨h1, hc1, hd1, hall⟩
      · exact .inl ⟨h0, fun j hj => hno j (hsame j hj)⟩
      · exact .inr ⟨h1, (hnew _).2 (.inl hc1), hd1, fun j hj => hall j (hsame j hj)⟩

/-! ### Ways: the beginnings of the lines from piece i on -/
def nxt (n : Nat) : List Nat → Nat
  | [] => n
  | a :: _ => a
def IsP (n : Nat) (G : Nat → Nat → Bool) : Nat → List Nat → Prop
  | i, [] => i = n
  | i, a :: s => a = i ∧ i < nxt n s ∧ nxt n s ≤ n ∧ G i (nxt n s) = true ∧ IsP n G (nxt n s) s
def cst (n : Nat) (C : Nat → Nat → Int) : List Nat → Int
  | [] => 0
  | a :: s => C a (nxt n s) + cst n C s
def bef : List Nat → List Nat → Bool
  | [], [] => false
  | [], _ :: _ => true
  | _ :: _, [] => false
  | a :: s, b :: t => decide (a < b) || (decide (a = b) && bef s t)

theorem IsP.nxt_eq {n : Nat} {G : Nat → Nat → Bool} {i : Nat} {s : List Nat} (h : IsP n G i s) : nxt n s = i := by
  cases s with
  | nil => exact Eq.symm h
  | cons a s => exact h.1
theorem IsP.le {n : Nat} {G : Nat → Nat → Bool} : ∀ {s : List Nat} {i : Nat}, IsP n G i s → i ≤ n
  | [], _, h => Nat.le_of_eq h
  | _ :: _, _, h => by have := h.2.1; have := h.2.2.1; omega
theorem IsP.nil_iff {n : Nat} {G : Nat → Nat → Bool} {i : Nat} {s : List Nat} (h : IsP n G i s) : s = [] ↔ i = n := by
  cases s with
  | nil => exact ⟨fun _ => h, fun _ => rfl⟩
  | cons a s => exact ⟨fun e => (by cases e), fun e => (by have := h.2.1; have := h.2.2.1; omega)⟩

theorem bef_irrefl : ∀ s : List Nat, bef s s = false
  | [] => rfl
  | a :: s => by simp [bef, bef_irrefl s]
theorem bef_asymm : ∀ {s t : List Nat}, bef s t = true → bef t s = false
  | [], [], h => by simp [bef] at h
  | [], _ :: _, _ => by simp [bef]
  | _ :: _, [], h => by simp [bef] at h
  | a :: s, b :: t, h => by
    simp only [bef, Bool.or_eq_true, decide_eq_true_eq, Bool.and_eq_true] at h
    simp only [bef, Bool.or_eq_false_iff, decide_eq_false_iff_not, Bool.and_eq_false_iff]
    rcases h with h | ⟨rfl, h⟩
    · exact ⟨by omega, .inl (by omega)⟩
    · exact ⟨by omega, .inr (bef_asymm h)⟩
theorem bef_trans : ∀ {s t u : List Nat}, bef s t = true → bef t u = true → bef s u = true
  | [], [], _, h, _ => by simp [bef] at h
  | [], _ :: _, [], _, h => by simp [bef] at h
  | [], _ :: _, _ :: _, _, _ => by simp [bef]
  | _ :: _, [], _, h, _ => by simp [bef] at h
  | _ :: _, _ :: _, [], _, h => by simp [bef] at h
  | a :: s, b :: t, c :: u, h, k => by
    simp only [bef, Bool.or_eq_true, decide_eq_true_eq, Bool.and_eq_true] at h k ⊢
    rcases h with h | ⟨rfl, h⟩
    · rcases k with k | ⟨rfl, k⟩
      · exact .inl (by omega)
      · exact .inl h
    · rcases k with k | ⟨rfl, k⟩
      · exact .inl k
      · exact .inr ⟨rfl, bef_trans h k⟩
theorem bef_total : ∀ s t : List Nat, s = t ∨ bef s t = true ∨ bef t s = true
  | [], [] => .inl rfl
  | [], _ :: _ => .inr (.inl rfl)
  | _ :: _, [] => .inr (.inr rfl)
  | a :: s, b :: t => by
    simp only [bef, Bool.or_eq_true, decide_eq_true_eq, Bool.and_eq_true]
    rcases Nat.lt_trichotomy a b with h | rfl | h
    · exact .inr (.inl (.inl h))
    · rcases bef_total s t with rfl | h | h
      · exact .inl rfl
      · exact .inr (.inl (.inr ⟨rfl, h⟩))
      · exact .inr (.inr (.inr ⟨rfl, h⟩))
    · exact .inr (.inr (.inl h))

/-- P is the first of the best ways of class K from j on, and t its tail; or there is no such way. -/
def BestIn (n : Nat) (C : Nat → Nat → Int) (K : Nat → List Nat → Prop) (j : Nat) (t : Tl) (P : List Nat) : Prop :=
  (t.th = true ∧ K j P ∧ cst n C P = t.dm ∧ ∀ s, K j s → t.dm < cst n C s ∨ (t.dm = cst n C s ∧ (P = s ∨ bef P s = true))) ∨ (t.th = false ∧ ∀ s, ¬ K j s)
/-- The ways from i on whose first line is legal and whose rest is of class K. -/
def Cons (n : Nat) (G : Nat → Nat → Bool) (K : Nat → List Nat → Prop) (i : Nat) (s : List Nat) : Prop :=
  ∃ s', s = i :: s' ∧ i < nxt n s' ∧ nxt n s' ≤ n ∧ G i (nxt n s') = true ∧ K (nxt n s') s'

theorem ext_best {n : Nat} {C : Nat → Nat → Int} {G : Nat → Nat → Bool} {K : Nat → List Nat → Prop} (hK : ∀ j s, K j s → IsP n G j s) {T : Nat → Tl} {P : Nat → List Nat} {i : Nat} (hi : i ≤ n)
    (h : ∀ j, i < j → j ≤ n → BestIn n C K j (T j) (P j)) :
    BestIn n C (Cons n G K) i (ext n C G T i (n - i)) (i :: P (ext n C G T i (n - i)).en) := by
  have hs := ext_spec (n := n) (C := C) (G := G) (T := T) (i := i) (n - i) (by omega)
  generalize ext n C G T i (n - i) = t at hs
  rcases hs with ⟨h0, hno⟩ | ⟨h1, hc, hd, hall⟩
  · refine .inr ⟨h0, fun s hs => ?_⟩
    obtain ⟨s', rfl, h1, h2, h3, h4⟩ := hs
    rcases h _ h1 h2 with ⟨ht, _⟩ | ⟨_, hn⟩
    · exact hno (nxt n s') ⟨h1, by omega, h3, ht⟩
    · exact hn _ h4
  · have hle : t.en ≤ n := by have := hc.2.1; omega
    rcases h t.en hc.1 hle with ⟨_, hKP, hcst, hbest⟩ | ⟨hf, _⟩
    · have hPn := (hK _ _ hKP).nxt_eq
      refine .inl ⟨h1, ⟨P t.en, rfl, by rw [hPn]; exact hc.1, by rw [hPn]; exact hle, by rw [hPn]; exact hc.2.2.1, by rw [hPn]; exact hKP⟩, by rw [cst, hPn, hcst, hd], fun s hs => ?_⟩
      obtain ⟨s', rfl, g1, g2, g3, g4⟩ := hs
      rcases h _ g1 g2 with ⟨ht, hKP', hcst', hbest'⟩ | ⟨_, hn⟩
      · have hle2 : (T (nxt n s')).dm ≤ cst n C s' := by rcases hbest' s' g4 with h | h <;> omega
        have hrel := hall (nxt n s') ⟨g1, by omega, g3, ht⟩
        rw [cst]
        by_cases hlt : t.dm < C i (nxt n s') + cst n C s'
        · exact .inl hlt
        · right
          rcases hrel with hrel | ⟨he, hr⟩
          · omega
          · refine ⟨by omega, ?_⟩
            have heq : (T (nxt n s')).dm = cst n C s' := by omega
            by_cases hj : t.en = nxt n s'
            · rw [hj]
              rcases hbest' s' g4 with h | ⟨_, he2 | hb⟩
              · omega
              · exact .inl (by rw [he2])
              · right
                simp [bef, hb]
            · right
              have hPs := (hK _ _ hKP).nil_iff
              have hss := (hK _ _ g4).nil_iff
              show bef (i :: P t.en) (i :: s') = true
              simp only [bef, Nat.lt_irrefl, decide_false, Bool.false_or, decide_true, Bool.true_and]
              cases hp : P t.en with
              | nil =>
                cases hs' : s' with
                | nil =>
                  exact absurd ((hPs.1 hp).trans (hss.1 hs').symm) hj
                | cons b s2 => rfl
              | cons a p2 =>
                have hen : t.en ≠ n := fun e => by rw [hPs.2 e] at hp; cases hp
                cases hs' : s' with
                | nil =>
                  rw [hs'] at hr
                  have h0 : rank n (nxt n []) = 0 := by simp [rank, nxt]
                  rw [h0] at hr
                  unfold rank at hr
                  rw [if_neg hen] at hr
                  have := hc.1
                  omega
                | cons b s2 =>
                  rw [hp] at hPn
                  rw [hs'] at hr hj hss
                  have ha : a = t.en := hPn
                  have hb : nxt n (b :: s2) = b := rfl
                  rw [hb] at hr hj hss
                  have hbn : b ≠ n := fun e => by have := hss.2 e; cases this
                  unfold rank at hr
                  rw [if_neg hen, if_neg hbn] at hr
                  have : a < b := by omega
                  simp [bef, this]
      · exact absurd g4 (hn _)
    · rw [hc.2.2.2] at hf
      cases hf

theorem ext_congr {n : Nat} {C : Nat → Nat → Int} {G : Nat → Nat → Bool} {T T' : Nat → Tl} {i : Nat} : ∀ c : Nat, (∀ j, i < j → j ≤ i + c → T j = T' j) → ext n C G T i c = ext n C G T' i c
  | 0, _ => rfl
  | c + 1, h => by
    have ih := ext_congr (n := n) (C := C) (G := G) (T := T) (T' := T') (i := i) c (fun j h1 h2 => h j h1 (by omega))
    unfold ext
    rw [ih, h (i + 1 + c) (by omega) (by omega)]

/-! ### The tails, piece by piece from the last one on -/
def tails0 (n j : Nat) : Tl := if j = n then ⟨true, 0, 0⟩ else noTl
def tailsF (n : Nat) (C : Nat → Nat → Int) (G : Nat → Nat → Bool) : Nat → Nat → Tl
  | 0 => tails0 n
  | d + 1 => fun j => if j = n - 1 - d then ext n C G (tailsF n C G d) j (n - j) else tailsF n C G d j
def tailT (n : Nat) (C : Nat → Nat → Int) (G : Nat → Nat → Bool) : Nat → Tl := tailsF n C G n

theorem tailsF_stays {n : Nat} {C : Nat → Nat → Int} {G : Nat → Nat → Bool} : ∀ (e d : Nat), d + e ≤ n → ∀ j, n - d ≤ j → tailsF n C G (d + e) j = tailsF n C G d j
  | 0, _, _, _, _ => rfl
  | e + 1, d, h, j, hj => by
    show (if j = n - 1 - (d + e) then _ else tailsF n C G (d + e) j) = _
    rw [if_neg (by omega)]
    exact tailsF_stays e d (by omega) j hj
theorem tailT_of {n : Nat} {C : Nat → Nat → Int} {G : Nat → Nat → Bool} {d : Nat} (hd : d ≤ n) {j : Nat} (hj : n - d ≤ j) : tailsF n C G d j = tailT n C G j := by
  have := tailsF_stays (C := C) (G := G) (n - d) d (by omega) j hj
  rw [show d + (n - d) = n by omega] at this
  exact this.symm
theorem tailT_end (n : Nat) (C : Nat → Nat → Int) (G : Nat → Nat → Bool) : tailT n C G n = ⟨true, 0, 0⟩ := by
  rw [← tailT_of (d := 0) (by omega) (by omega)]
  simp [tailsF, tails0]
theorem tailT_eq {n : Nat} {C : Nat → Nat → Int} {G : Nat → Nat → Bool} {i : Nat} (hi : i < n) : tailT n C G i = ext n C G (tailT n C G) i (n - i) := by
  rw [← tailT_of (d := n - 1 - i + 1) (by omega) (by omega)]
  show (if i = n - 1 - (n - 1 - i) then _ else _) = _
  rw [if_pos (by omega)]
  exact ext_congr _ fun j h1 h2 => tailT_of (by omega) (by omega)

def pathF (n : Nat) (T : Nat → Tl) : Nat → Nat → List Nat
  | 0, _ => []
  | f + 1, i => if i < n then i :: pathF n T f (T i).en else []
def pathT (n : Nat) (T : Nat → Tl) (i : Nat) : List Nat := pathF n T (n - i) i

theorem tail_best {n : Nat} {C : Nat → Nat → Int} {G : Nat → Nat → Bool} (hG : ∀ i, i < n → G i (i + 1) = true) :
    ∀ (d i : Nat), i ≤ n → n - i ≤ d → ∃ P, (tailT n C G i).th = true ∧ BestIn n C (IsP n G) i (tailT n C G i) P ∧ ∀ f, n - i ≤ f → pathF n (tailT n C G) f i = P
  | 0, i, hi, hd => by
    obtain rfl : i = n := by omega
    refine ⟨[], by rw [tailT_end], .inl ⟨by rw [tailT_end], rfl, by rw [tailT_end]; rfl, fun s hs => ?_⟩, fun f _ => ?_⟩
    · have : s = [] := (IsP.nil_iff hs).2 rfl
      subst this
      exact .inr ⟨by rw [tailT_end]; rfl, .inl rfl⟩
    · cases f with
      | zero => rfl
      | succ f => simp [pathF]
  | d + 1, i, hi, hd => by
    by_cases hlt : i < n
    · have ih := fun j (h1 : i < j) (h2 : j ≤ n) => tail_best (C := C) hG d j h2 (by omega)
      have hP : ∃ P : Nat → List Nat, ∀ j, i < j → j ≤ n → (tailT n C G j).th = true ∧ BestIn n C (IsP n G) j (tailT n C G j) (P j) ∧ ∀ f, n - j ≤ f → pathF n (tailT n C G) f j = P j := by
        classical
        refine ⟨fun j => if h : i < j ∧ j ≤ n then Classical.choose (ih j h.1 h.2) else [], fun j h1 h2 => ?_⟩
        have hc := Classical.choose_spec (ih j h1 h2)
        simpa only [dif_pos (And.intro h1 h2)] using hc
      obtain ⟨P, hP⟩ := hP
      have hb := ext_best (n := n) (C := C) (G := G) (K := IsP n G) (fun j s h => h) (T := tailT n C G) (P := P) (i := i) hi (fun j h1 h2 => (hP j h1 h2).2.1)
      have hcons : ∀ s, Cons n G (IsP n G) i s ↔ IsP n G i s := by
        intro s
        constructor
        · rintro ⟨s', rfl, h1, h2, h3, h4⟩
          exact ⟨rfl, h1, h2, h3, h4⟩
        · intro h
          cases s with
          | nil => exact absurd h (by show ¬ i = n; omega)
          | cons a s => obtain ⟨rfl, h1, h2, h3, h4⟩ := h; exact ⟨s, rfl, h1, h2, h3, h4⟩
      have hspec := ext_spec (n := n) (C := C) (G := G) (T := tailT n C G) (i := i) (n - i) (by omega)
      have hE := tailT_eq (C := C) (G := G) hlt
      rw [← hE] at hb hspec
      have hth : (tailT n C G i).th = true ∧ i < (tailT n C G i).en ∧ (tailT n C G i).en ≤ n := by
        rcases hspec with ⟨_, hno⟩ | ⟨h1, hc, _⟩
        · exact absurd ⟨Nat.lt_succ_self i, by omega, hG i hlt, (hP (i + 1) (by omega) (by omega)).1⟩ (hno (i + 1))
        · exact ⟨h1, hc.1, by have := hc.2.1; omega⟩
      refine ⟨i :: P (tailT n C G i).en, hth.1, ?_, fun f hf => ?_⟩
      · rcases hb with ⟨h1, h2, h3, h4⟩ | ⟨h1, _⟩
        · exact .inl ⟨h1, (hcons _).1 h2, h3, fun s hs => h4 s ((hcons s).2 hs)⟩
        · rw [hth.1] at h1; cases h1
      · cases f with
        | zero => omega
        | succ f =>
          show (if i < n then i :: pathF n (tailT n C G) f (tailT n C G i).en else []) = _
          rw [if_pos hlt, (hP _ hth.2.1 hth.2.2).2.2 f (by omega)]
    · exact tail_best hG d i hi (by omega)

/-- The best way from i on, with its tail. -/
theorem best_of {n : Nat} {C : Nat → Nat → Int} {G : Nat → Nat → Bool} (hG : ∀ i, i < n → G i (i + 1) = true) {i : Nat} (hi : i ≤ n) :
    (tailT n C G i).th = true ∧ IsP n G i (pathT n (tailT n C G) i) ∧ cst n C (pathT n (tailT n C G) i) = (tailT n C G i).dm ∧
      ∀ s, IsP n G i s → (tailT n C G i).dm < cst n C s ∨ ((tailT n C G i).dm = cst n C s ∧ (pathT n (tailT n C G) i = s ∨ bef (pathT n (tailT n C G) i) s = true)) := by
  obtain ⟨P, h1, h2, h3⟩ := tail_best (C := C) hG (n - i) i hi (Nat.le_refl _)
  have e : pathT n (tailT n C G) i = P := h3 _ (Nat.le_refl _)
  rw [e]
  rcases h2 with ⟨_, a, b, c⟩ | ⟨h, _⟩
  · exact ⟨h1, a, b, c⟩
  · rw [h1] at h; cases h
theorem tail_en {n : Nat} {C : Nat → Nat → Int} {G : Nat → Nat → Bool} (hG : ∀ i, i < n → G i (i + 1) = true) {i : Nat} (hi : i < n) : i < (tailT n C G i).en ∧ (tailT n C G i).en ≤ n := by
  have hspec := ext_spec (n := n) (C := C) (G := G) (T := tailT n C G) (i := i) (n - i) (by omega)
  rw [← tailT_eq hi] at hspec
  rcases hspec with ⟨_, hno⟩ | ⟨_, hc, _⟩
  · exact absurd ⟨Nat.lt_succ_self i, by omega, hG i hi, (best_of (C := C) hG (i := i + 1) (by omega)).1⟩ (hno (i + 1))
  · exact ⟨hc.1, by have := hc.2.1; omega⟩

/-! ### The tails with a number of lines -/
def tailsC (n : Nat) (C : Nat → Nat → Int) (G : Nat → Nat → Bool) : Nat → Nat → Tl
  | 0 => tails0 n
  | c + 1 => fun i => if i < n then ext n C G (tailsC n C G c) i (n - i) else noTl
def pathC (n : Nat) (C : Nat → Nat → Int) (G : Nat → Nat → Bool) : Nat → Nat → List Nat
  | 0, _ => []
  | c + 1, i => i :: pathC n C G c (tailsC n C G (c + 1) i).en
def KC (n : Nat) (G : Nat → Nat → Bool) (c j : Nat) (s : List Nat) : Prop := IsP n G j s ∧ s.length = c

theorem counted_best {n : Nat} {C : Nat → Nat → Int} {G : Nat → Nat → Bool} : ∀ (c i : Nat), i ≤ n → BestIn n C (KC n G c) i (tailsC n C G c i) (pathC n C G c i)
  | 0, i, hi => by
    by_cases e : i = n
    · subst e
      have h0 : tailsC i C G 0 i = ⟨true, 0, 0⟩ := by simp [tailsC, tails0]
      refine .inl ⟨by rw [h0], ⟨rfl, rfl⟩, by rw [h0]; rfl, fun s hs => ?_⟩
      have : s = [] := List.eq_nil_of_length_eq_zero hs.2
      subst this
      exact .inr ⟨by rw [h0]; rfl, .inl rfl⟩
    · have h0 : tailsC n C G 0 i = noTl := by simp [tailsC, tails0, e]
      refine .inr ⟨by rw [h0]; rfl, fun s hs => ?_⟩
      have : s = [] := List.eq_nil_of_length_eq_zero hs.2
      subst this
      exact e hs.1
  | c + 1, i, hi => by
    by_cases hlt : i < n
    · have hb := ext_best (n := n) (C := C) (G := G) (K := KC n G c) (fun j s h => h.1) (T := tailsC n C G c) (P := pathC n C G c) (i := i) hi (fun j _ h2 => counted_best c j h2)
      have hE : tailsC n C G (c + 1) i = ext n C G (tailsC n C G c) i (n - i) := by
        show (if i < n then _ else _) = _
        rw [if_pos hlt]
      have hcons : ∀ s, Cons n G (KC n G c) i s ↔ KC n G (c + 1) i s := by
        intro s
        constructor
        · rintro ⟨s', rfl, h1, h2, h3, h4, h5⟩
          exact ⟨⟨rfl, h1, h2, h3, h4⟩, by simp [h5]⟩
        · rintro ⟨h, hl⟩
          cases s with
          | nil => simp at hl
          | cons a s => obtain ⟨rfl, h1, h2, h3, h4⟩ := h; exact ⟨s, rfl, h1, h2, h3, h4, by simpa using hl⟩
      rw [← hE] at hb
      rcases hb with ⟨h1, h2, h3, h4⟩ | ⟨h1, h2⟩
      · exact .inl ⟨h1, (hcons _).1 h2, h3, fun s hs => h4 s ((hcons s).2 hs)⟩
      · exact .inr ⟨h1, fun s hs => h2 s ((hcons s).2 hs)⟩
    · refine .inr ⟨by show (if i < n then _ else noTl).th = false; rw [if_neg hlt]; rfl, fun s hs => ?_⟩
      obtain ⟨hs, hl⟩ := hs
      cases s with
      | nil => simp at hl
      | cons a s => have := hs.1; have := hs.2.1; have := hs.2.2.1; omega
theorem counted_en {n : Nat} {C : Nat → Nat → Int} {G : Nat → Nat → Bool} {c i : Nat} (h : (tailsC n C G (c + 1) i).th = true) :
    i < n ∧ i < (tailsC n C G (c + 1) i).en ∧ (tailsC n C G (c + 1) i).en ≤ n ∧ (tailsC n C G c (tailsC n C G (c + 1) i).en).th = true := by
  by_cases hlt : i < n
  · have hE : tailsC n C G (c + 1) i = ext n C G (tailsC n C G c) i (n - i) := by
      show (if i < n then _ else _) = _
      rw [if_pos hlt]
    have hspec := ext_spec (n := n) (C := C) (G := G) (T := tailsC n C G c) (i := i) (n - i) (by omega)
    rw [← hE] at hspec
    rcases hspec with ⟨h0, _⟩ | ⟨_, hc, _⟩
    · rw [h] at h0; cases h0
    · exact ⟨hlt, hc.1, by have := hc.2.1; omega, hc.2.2.2⟩
  · have : (tailsC n C G (c + 1) i).th = false := by show (if i < n then _ else noTl).th = false; rw [if_neg hlt]; rfl
    rw [h] at this; cases this
end Go.Proofs.Ytkamffjncndabaa
