/- What Column is to answer: plain words. -/
import Derived.Test.YtonahgdchngabaaPkDist
import Derived.Test.YtonahgdchngabaaPkBack
import Derived.Test.YtonahgdchngabaaBoxFit
namespace Go.Proofs.Ytonahgdchngabaa
open Go.RowKit
def listP (W H D : Int) (l : List Bx) : Bx := .mk 3 ⟨#[]⟩ 0 W H D 0 0 l 0 []
def zeroBx : Bx := .mk 0 ⟨#[]⟩ 0 0 0 0 0 0 [] 0 []
/-- The way down from the first kid to kid k. -/
def downI (l : List Bx) (g : List Int) : Nat → Int
  | 0 => 0
  | k + 1 => downI l g k + distI l g k
def colY (l : List Bx) (g : List Int) (b i : Nat) : Int := downI l g b - downI l g i
def movedY (l : List Bx) (Y : Nat → Int) : List Bx := (List.range l.length).map fun i => (kidAt l i).atY (Y i)
/-- The greatest right end of the first n kids, at least 0. -/
def maxR (l : List Bx) : Nat → Int
  | 0 => 0
  | n + 1 => max (maxR l n) ((kidAt l n).x + (kidAt l n).w)
def colB (l : List Bx) (g : List Int) (b : Nat) : Bx :=
  listP (maxR l l.length) (colY l g b 0 + (kidAt l 0).h + lAt g 0) ((kidAt l (l.length - 1)).d - colY l g b (l.length - 1)) (movedY l (colY l g b))
def allV (l : List Bx) : Prop := ∀ i, i < l.length → validB (kidAt l i)
def colOk (l : List Bx) (g : List Int) (b : Int) : Prop := g.length = l.length ∧ 0 ≤ b ∧ b < (l.length : Int)
def gapsOk (g : List Int) : Prop := ∀ k, k < g.length → rngL (lAt g k)
open Classical in
noncomputable def colE (l : List Bx) (g : List Int) (b : Int) : Int :=
  if allV l then (if colOk l g b then (if gapsOk g then (if validB (colB l g b.toNat) then 0 else 6) else 2) else 2) else 1
open Classical in
noncomputable def colR (l : List Bx) (g : List Int) (b : Int) : Bx := if colE l g b = 0 then colB l g b.toNat else zeroBx
theorem colE_1 {l : List Bx} {g : List Int} {b : Int} (h : ¬ allV l) : colE l g b = 1 ∧ colR l g b = zeroBx := by
  have e : colE l g b = 1 := by unfold colE; rw [if_neg h]
  exact ⟨e, by unfold colR; rw [e, if_neg (by decide)]⟩
theorem colE_2 {l : List Bx} {g : List Int} {b : Int} (h : allV l) (h2 : ¬ colOk l g b) : colE l g b = 2 ∧ colR l g b = zeroBx := by
  have e : colE l g b = 2 := by unfold colE; rw [if_pos h, if_neg h2]
  exact ⟨e, by unfold colR; rw [e, if_neg (by decide)]⟩
theorem colE_3 {l : List Bx} {g : List Int} {b : Int} (h : allV l) (h2 : colOk l g b) (h3 : ¬ gapsOk g) : colE l g b = 2 ∧ colR l g b = zeroBx := by
  have e : colE l g b = 2 := by unfold colE; rw [if_pos h, if_pos h2, if_neg h3]
  exact ⟨e, by unfold colR; rw [e, if_neg (by decide)]⟩
theorem colE_4 {l : List Bx} {g : List Int} {b : Int} (h : allV l) (h2 : colOk l g b) (h3 : gapsOk g) (h4 : ¬ validB (colB l g b.toNat)) : colE l g b = 6 ∧ colR l g b = zeroBx := by
  have e : colE l g b = 6 := by unfold colE; rw [if_pos h, if_pos h2, if_pos h3, if_neg h4]
  exact ⟨e, by unfold colR; rw [e, if_neg (by decide)]⟩
theorem colE_0 {l : List Bx} {g : List Int} {b : Int} (h : allV l) (h2 : colOk l g b) (h3 : gapsOk g) (h4 : validB (colB l g b.toNat)) : colE l g b = 0 ∧ colR l g b = colB l g b.toNat := by
  have e : colE l g b = 0 := by unfold colE; rw [if_pos h, if_pos h2, if_pos h3, if_pos h4]
  exact ⟨e, by unfold colR; rw [if_pos e]⟩
theorem allV.num {l : List Bx} (h : allV l) {i : Nat} (hi : i < l.length) : rngL (kidAt l i).w ∧ rngL (kidAt l i).h ∧ rngL (kidAt l i).d ∧ rngL (kidAt l i).x ∧ rngL (kidAt l i).y := by
  have h1 := ((properB_eq _).1 (h i hi).1).1.1
  exact ⟨h1 0 (by omega), h1 1 (by omega), h1 2 (by omega), h1 3 (by omega), h1 4 (by omega)⟩
theorem dist_bound {l : List Bx} {g : List Int} (h : allV l) (hg : gapsOk g) (hgl : g.length = l.length) {i : Nat} (hi : i + 1 < l.length) : -3221225472 ≤ distI l g i ∧ distI l g i ≤ 3221225472 := by
  have h1 := (h.num (i := i) (by omega)).2.2.1
  have h2 := (h.num hi).2.1
  have h3 := hg (i + 1) (by omega)
  unfold rngL at h1 h2 h3
  unfold distI
  omega
theorem down_bound {l : List Bx} {g : List Int} (h : allV l) (hg : gapsOk g) (hgl : g.length = l.length) : ∀ k, k < l.length → -3221225472 * (k : Int) ≤ downI l g k ∧ downI l g k ≤ 3221225472 * (k : Int)
  | 0, _ => by simp [downI]
  | k + 1, hk => by
    have := down_bound h hg hgl k (by omega)
    have := dist_bound h hg hgl (i := k) hk
    rw [downI]
    omega
theorem colY_bound {l : List Bx} {g : List Int} (h : allV l) (hg : gapsOk g) (hgl : g.length = l.length) (hl : l.length ≤ 1000) {b i : Nat} (hb : b < l.length) (hi : i < l.length) : -6442450944000 ≤ colY l g b i ∧ colY l g b i ≤ 6442450944000 := by
  have h1 := down_bound h hg hgl b hb
  have h2 := down_bound h hg hgl i hi
  unfold colY
  omega
/-- The heights after one step of the loop upwards. -/
def upY (l : List Bx) (g : List Int) (Y : Nat → Int) (i : Nat) : Nat → Int := updI Y i (IntKind.i64.wrap (Y (i + 1) + distI l g i))
def upF (l : List Bx) (g : List Int) (Y : Nat → Int) (is : List Nat) : Nat → Int := is.foldl (upY l g) Y
theorem upF_snoc (l : List Bx) (g : List Int) (Y : Nat → Int) (is : List Nat) (i : Nat) : upF l g Y (is ++ [i]) = upY l g (upF l g Y is) i := by simp [upF, List.foldl_append]
def origY (l : List Bx) (i : Nat) : Int := (kidAt l i).y
theorem up_dn {l : List Bx} {g : List Int} (h : allV l) (hg : gapsOk g) (hgl : g.length = l.length) (hl : l.length ≤ 1000) {b : Nat} (hb : b < l.length) : ∀ c, c ≤ b → ∀ i, upF l g (updI (origY l) b 0) (dn b c) i = if b - c ≤ i ∧ i ≤ b then colY l g b i else origY l i
  | 0, _, i => by
    show updI (origY l) b 0 i = _
    unfold updI
    by_cases e : i = b
    · subst e
      rw [if_pos rfl, if_pos (by omega)]
      unfold colY
      omega
    · rw [if_neg e, if_neg (by omega)]
  | c + 1, hc, i => by
    have ih := up_dn h hg hgl hl hb c (by omega)
    rw [dn, upF_snoc]
    show (if i = b - 1 - c then IntKind.i64.wrap (upF l g (updI (origY l) b 0) (dn b c) (b - 1 - c + 1) + distI l g (b - 1 - c)) else upF l g (updI (origY l) b 0) (dn b c) i) = _
    by_cases e : i = b - 1 - c
    · rw [if_pos e, if_pos (by omega), ih, if_pos (by omega)]
      have e1 : b - 1 - c + 1 = b - c := by omega
      have e2 : colY l g b (b - c) + distI l g (b - 1 - c) = colY l g b (b - 1 - c) := by
        have : downI l g (b - c) = downI l g (b - 1 - c) + distI l g (b - 1 - c) := by rw [← e1, downI]
        unfold colY
        omega
      rw [e1, e2, ← e]
      have := colY_bound h hg hgl hl hb (i := i) (by omega)
      exact IntWalk.i64_in _ (by omega)
    · rw [if_neg e, ih]
      by_cases e2 : b - c ≤ i ∧ i ≤ b
      · rw [if_pos e2, if_pos (by omega)]
      · rw [if_neg e2, if_neg (by omega)]
mutual
/-- The rows of numbers of a proper box are short. -/
theorem proper_fit : ∀ t : Bx, properB t → fitB t
  | .mk k nm sz w h d x y kids of_ src, hp => by
    unfold properB at hp
    unfold fitB
    refine ⟨?_, proper_fitL kids hp.2⟩
    have := hp.1.2.2.2
    simp only [Bx.of_, Bx.src] at this
    unfold fitN
    omega
theorem proper_fitL : ∀ l : List Bx, properL l → fitL l
  | [], _ => by unfold fitL; trivial
  | t :: ts, hp => by
    rw [properL_cons] at hp
    unfold fitL
    exact ⟨proper_fit t hp.1, proper_fitL ts hp.2⟩
end
theorem atY_fit {t : Bx} (h : fitB t) (y : Int) : fitB (t.atY y) := by
  rw [fitB_eq] at h ⊢
  exact h
theorem movedY_len (l : List Bx) (Y : Nat → Int) : (movedY l Y).length = l.length := by simp [movedY]
theorem movedY_at {l : List Bx} {Y : Nat → Int} {i : Nat} (h : i < l.length) : kidAt (movedY l Y) i = (kidAt l i).atY (Y i) := by
  simp [movedY, kidAt, List.getD, h]
theorem atY_cnt (t : Bx) (y : Int) : cntB (t.atY y) = cntB t := by rw [cntB_eq, cntB_eq]; rfl
theorem movedY_cnt (l : List Bx) (Y : Nat → Int) : cntL (movedY l Y) = cntL l := by
  have hk : ∀ n, n ≤ l.length → cntL ((movedY l Y).take n) = cntL (l.take n) := fun n => by
    induction n with
    | zero => intro _; simp
    | succ n ih =>
      intro hn
      rw [cnt_take _ (by rw [movedY_len]; omega), cnt_take _ (by omega), ih (by omega), movedY_at (by omega), atY_cnt]
  have := hk l.length (Nat.le_refl _)
  rw [List.take_length, ← movedY_len l Y, List.take_length] at this
  exact this
theorem rowY_moved {l : List Bx} {Q : List Q5} (h : Q.map Q5.t = l) {Y Y' : Nat → Int} (hY : ∀ i, i < l.length → Y i = Y' i) : (rowY Q Y).map Q5.t = movedY l Y' := by
  subst h
  apply List.ext_getElem
  · simp [rowY, movedY]
  · intro i h1 h2
    have hi : i < Q.length := by simpa [rowY] using h1
    have := hY i (by simpa using hi)
    simp [rowY, movedY, Q5.atY, kidAt, List.getD, hi, this]
end Go.Proofs.Ytonahgdchngabaa
