/- Rows of boxes set beside each other: plain words, and the memory of a row under work. -/
import Derived.Test.YtjckbdbjcgjcaaaM1
import Derived.Test.YtjckbdbjcgjcaaaPkLen
import Derived.Test.YtjckbdbjcgjcaaaBoxListA
import Derived.RangeFuncBox
import Derived.Laws.MakeOwn
namespace Go.Proofs.Ytjckbdbjcgjcaaa
open Go.RowKit
def Bx.atX (t : Bx) (x : Int) : Bx := .mk t.k t.nm t.sz t.w t.h t.d x t.y t.kids t.of_ t.src
def Q5.atX (q : Q5) (x : Int) : Q5 := ⟨q.t.atX x, q.A, q.c, q.A', q.c'⟩
theorem Q5.atX_other (q : Q5) (x : Int) {j : Nat} (hj : j < 11) (h : j ≠ 6) : (q.atX x).cells[j]? = q.cells[j]? := by
  unfold Q5.cells Q5.atX Bx.atX
  match j, hj, h with
  | 0, _, _ => rfl
  | 1, _, _ => rfl
  | 2, _, _ => rfl
  | 3, _, _ => rfl
  | 4, _, _ => rfl
  | 5, _, _ => rfl
  | 6, _, h => exact absurd rfl h
  | 7, _, _ => rfl
  | 8, _, _ => rfl
  | 9, _, _ => rfl
  | 10, _, _ => rfl
theorem Q5.atX_6 (q : Q5) (x : Int) : (q.atX x).cells[6]? = some (.int .i64 x) := rfl
def zeroBx : Bx := .mk 0 ⟨#[]⟩ 0 0 0 0 0 0 [] 0 []
def maxH (l : List Bx) : Nat → Int
  | 0 => 0
  | n + 1 => max (maxH l n) ((kidAt l n).y + (kidAt l n).h)
def maxD (l : List Bx) : Nat → Int
  | 0 => 0
  | n + 1 => max (maxD l n) ((kidAt l n).d - (kidAt l n).y)
def movedX (l : List Bx) (P : Nat → Int) : List Bx := (List.range l.length).map fun i => (kidAt l i).atX (P i)
def rowB (l : List Bx) (P : Nat → Int) (W : Int) : Bx := listB W (maxH l l.length) (maxD l l.length) (movedX l P)
open Classical in
noncomputable def putE (l : List Bx) (P : Nat → Int) (W : Int) : Int := if validB (rowB l P W) then 0 else 6
open Classical in
noncomputable def putR (l : List Bx) (P : Nat → Int) (W : Int) : Bx := if validB (rowB l P W) then rowB l P W else zeroBx
theorem put_yes {l : List Bx} {P : Nat → Int} {W : Int} (h : validB (rowB l P W)) : putE l P W = 0 ∧ putR l P W = rowB l P W := ⟨if_pos h, if_pos h⟩
theorem put_no {l : List Bx} {P : Nat → Int} {W : Int} (h : ¬ validB (rowB l P W)) : putE l P W = 6 ∧ putR l P W = zeroBx := ⟨if_neg h, if_neg h⟩
def allV (l : List Bx) : Prop := ∀ i, i < l.length → validB (kidAt l i)
theorem allV.num {l : List Bx} (h : allV l) {i : Nat} (hi : i < l.length) : rngL (kidAt l i).w ∧ rngL (kidAt l i).h ∧ rngL (kidAt l i).d ∧ rngL (kidAt l i).x ∧ rngL (kidAt l i).y := by
  have h1 := ((properB_eq _).1 (h i hi).1).1.1
  exact ⟨h1 0 (by omega), h1 1 (by omega), h1 2 (by omega), h1 3 (by omega), h1 4 (by omega)⟩
theorem maxH_bound {l : List Bx} (h : allV l) : ∀ n, n ≤ l.length → 0 ≤ maxH l n ∧ maxH l n ≤ 2147483648
  | 0, _ => by simp [maxH]
  | n + 1, hn => by
    have h1 := maxH_bound h n (by omega)
    have h2 := h.num (i := n) (by omega)
    unfold rngL at h2
    rw [maxH]
    omega
theorem maxD_bound {l : List Bx} (h : allV l) : ∀ n, n ≤ l.length → 0 ≤ maxD l n ∧ maxD l n ≤ 2147483648
  | 0, _ => by simp [maxD]
  | n + 1, hn => by
    have h1 := maxD_bound h n (by omega)
    have h2 := h.num (i := n) (by omega)
    unfold rngL at h2
    rw [maxD]
    omega
theorem max_if (a b : Int) : max a b = if a < b then b else a := by
  split <;> omega
mutual
/-- The rows of numbers of a proper box are short. -/
theorem proper_fit : ∀ t : Bx, properB t → fitB t
  | .mk k nm sz w h d x y kids of_ src, hp => by
    unfold properB at hp
    unfold fitB
    refine ⟨?_, proper_fitL kids hp.2⟩
    have := hp.1.2.2.2
    simp only [Bx.of_, Bx.src] at this
    unfold fitN
    omega
theorem proper_fitL : ∀ l : List Bx, properL l → fitL l
  | [], _ => by unfold fitL; trivial
  | t :: ts, hp => by
    rw [properL_cons] at hp
    unfold fitL
    exact ⟨proper_fit t hp.1, proper_fitL ts hp.2⟩
end
theorem atX_fit {t : Bx} (h : fitB t) (x : Int) : fitB (t.atX x) := by
  rw [fitB_eq] at h ⊢
  exact h
theorem movedX_len (l : List Bx) (P : Nat → Int) : (movedX l P).length = l.length := by simp [movedX]
theorem movedX_at {l : List Bx} {P : Nat → Int} {i : Nat} (h : i < l.length) : kidAt (movedX l P) i = (kidAt l i).atX (P i) := by
  simp [movedX, kidAt, List.getD, h]
theorem atX_cnt (t : Bx) (x : Int) : cntB (t.atX x) = cntB t := by rw [cntB_eq, cntB_eq]; rfl
theorem movedX_cnt (l : List Bx) (P : Nat → Int) : cntL (movedX l P) = cntL l := by
  have hk : ∀ n, n ≤ l.length → cntL ((movedX l P).take n) = cntL (l.take n) := fun n => by
    induction n with
    | zero => intro _; simp
    | succ n ih =>
      intro hn
      rw [cnt_take _ (by rw [movedX_len]; omega), cnt_take _ (by omega), ih (by omega), movedX_at (by omega), atX_cnt]
  have := hk l.length (Nat.le_refl _)
  rw [List.take_length, ← movedX_len l P, List.take_length] at this
  exact this
theorem rowB_lens {l : List Bx} {P : Nat → Int} {W : Int} (h : l.length ≤ 1000) (hc : cntL l ≤ 1000) : lens (rowB l P W) ∧ cntB (rowB l P W) ≤ 1001 := by
  refine ⟨⟨Nat.zero_le _, Nat.zero_le _, by show (movedX l P).length ≤ _; rw [movedX_len]; unfold lenMax; omega⟩, ?_⟩
  rw [cntB_eq]
  show 1 + cntL (movedX l P) ≤ 1001
  rw [movedX_cnt]
  omega
theorem zeroBx_lens : lens zeroBx ∧ cntB zeroBx ≤ 1001 := ⟨⟨Nat.zero_le _, Nat.zero_le _, Nat.zero_le _⟩, by rw [cntB_eq]; show 1 + cntL [] ≤ _; rw [cntL_nil]; omega⟩
theorem putR_lens {l : List Bx} {P : Nat → Int} {W : Int} (h : l.length ≤ 1000) (hc : cntL l ≤ 1000) : lens (putR l P W) ∧ cntB (putR l P W) ≤ 1001 ∧ (putR l P W).src = [] := by
  unfold putR
  split
  · exact ⟨(rowB_lens h hc).1, (rowB_lens h hc).2, rfl⟩
  · exact ⟨zeroBx_lens.1, zeroBx_lens.2, rfl⟩
/-! ### The row under work -/
/-- The block g holds, in its first m places, the boxes Q at the places P. -/
def RowX (g : Nat) (Q : List Q5) (P : Nat → Int) (m : Nat) (W : World) : Prop :=
  ∃ cs, W.heap[g]? = some (.cells cs 28 (0, 0)) ∧ cs.size = Q.length * 11 ∧ ∀ i q, i < m → Q[i]? = some q → ∀ j, j < 11 → cs[i * 11 + j]? = (q.atX (P i)).cells[j]?
theorem RowX.keep {g : Nat} {Q : List Q5} {P : Nat → Int} {m : Nat} {W W' : World} (h : RowX g Q P m W) (hb : W'.heap[g]? = W.heap[g]?) : RowX g Q P m W' := by
  obtain ⟨cs, h1, h2, h3⟩ := h
  exact ⟨cs, hb.trans h1, h2, h3⟩
/-- What the cells hold once box i has been stored and moved. -/
theorem rowx_put {Q : List Q5} {P : Nat → Int} {m : Nat} {cs : Array Value} {q : Q5} (hs : cs.size = Q.length * 11) (h : ∀ i q, i < m → Q[i]? = some q → ∀ j, j < 11 → cs[i * 11 + j]? = (q.atX (P i)).cells[j]?) (hq : Q[m]? = some q) (hm : m < Q.length) :
    (((cs.toList.take (m * 11) ++ q.cells ++ cs.toList.drop (m * 11 + 11)).toArray).setIfInBounds (m * 11 + 6) (.int .i64 (P m))).size = Q.length * 11 ∧
    ∀ i p, i < m + 1 → Q[i]? = some p → ∀ j, j < 11 → (((cs.toList.take (m * 11) ++ q.cells ++ cs.toList.drop (m * 11 + 11)).toArray).setIfInBounds (m * 11 + 6) (.int .i64 (P m)))[i * 11 + j]? = (p.atX (P i)).cells[j]? := by
  have hl : (cs.toList.take (m * 11)).length = m * 11 := by simp; omega
  have hz : (cs.toList.take (m * 11) ++ q.cells ++ cs.toList.drop (m * 11 + 11)).length = Q.length * 11 := by
    rw [List.length_append, List.length_append, hl, Q5.len, List.length_drop, Array.length_toList]
    omega
  refine ⟨by rw [Array.size_setIfInBounds, List.size_toArray]; exact hz, fun i p hi hp j hj => ?_⟩
  by_cases e : i = m
  · subst e
    rw [hq] at hp
    injection hp with hp
    subst hp
    by_cases e6 : j = 6
    · subst e6
      rw [Array.getElem?_setIfInBounds_self_of_lt (by rw [List.size_toArray, hz]; omega), Q5.atX_6]
    · rw [Array.getElem?_setIfInBounds_ne (by omega), Q5.atX_other _ _ hj e6, List.getElem?_toArray, List.append_assoc, List.getElem?_append_right (by rw [hl]; omega), hl, List.getElem?_append_left (by rw [Q5.len]; omega)]
      congr 1
      omega
  · rw [Array.getElem?_setIfInBounds_ne (by omega), ← h i p (by omega) hp j hj, List.getElem?_toArray, List.append_assoc, List.getElem?_append_left (by rw [hl]; omega), List.getElem?_take_of_lt (by omega)]
    simp
def rowX (Q : List Q5) (P : Nat → Int) : List Q5 := Q.mapIdx fun i q => q.atX (P i)
theorem rowX_len (Q : List Q5) (P : Nat → Int) : (rowX Q P).length = Q.length := by simp [rowX]
theorem rowX_at {Q : List Q5} {P : Nat → Int} {i : Nat} {q : Q5} (h : Q[i]? = some q) : (rowX Q P)[i]? = some (q.atX (P i)) := by simp [rowX, h]
theorem RowX.kids {g : Nat} {Q : List Q5} {P : Nat → Int} {W : World} {lo hi : Nat} (h : RowX g Q P Q.length W) (h1 : lo ≤ g) (h2 : g < hi) (hm : ∀ q ∈ Q, Lies W lo hi q) : Kids W lo hi (some ⟨g, 0, none⟩) ((rowX Q P).map Q5.t) := by
  obtain ⟨cs, hb, _, hc⟩ := h
  refine kids_row (fun k u hu => ?_) h1 h2 fun q hq => ?_
  · rw [Nat.zero_add]
    obtain ⟨q, hq, hu2⟩ := rowC_of _ _ _ hu
    have hk := (List.getElem?_eq_some_iff.1 hq).1
    rw [rowX_len] at hk
    have hq2 := rowX_at (P := P) (List.getElem?_eq_getElem hk)
    rw [hq] at hq2
    injection hq2 with hq2
    subst hq2
    refine blk_cell hb k u ?_
    rw [show k = k / 11 * 11 + k % 11 by omega, hc _ _ hk (List.getElem?_eq_getElem hk) _ (by omega)]
    exact hu2
  · obtain ⟨i, hi, rfl⟩ := List.mem_iff_getElem.1 hq
    have hi' : i < Q.length := by rw [rowX_len] at hi; exact hi
    have := rowX_at (P := P) (List.getElem?_eq_getElem hi')
    rw [List.getElem?_eq_getElem hi] at this
    injection this with this
    rw [this]
    have h := hm _ (List.getElem_mem hi')
    exact ⟨h.1, h.2.1, h.2.2⟩
theorem rowX_moved {l : List Bx} {Q : List Q5} (h : Q.map Q5.t = l) {P : Nat → Int} : (rowX Q P).map Q5.t = movedX l P := by
  subst h
  apply List.ext_getElem
  · simp [rowX, movedX]
  · intro i h1 h2
    have hi : i < Q.length := by simpa [rowX] using h1
    simp [rowX, movedX, Q5.atX, kidAt, List.getD, hi]
theorem make_ints (n : Nat) (hn : n ≤ 1000) (W : World) : (Instr.makeSlice 26 (.int .i64 (n : Int)) (.int .i64 (n : Int))).run Try.prog W =
    .ok (.slice (some ⟨W.heap.size, 0, none⟩) n n) (W.alloc (.cells (madeCells #[.int .i64 0] n) 3)) := by
  obtain ⟨i, hi, hz, hs, hb⟩ := info_parts infoI
  have h := run_make (P := Try.prog) W 26 3 i (.int .i64 0) Try.underlying26 hi hz .i64 .i64 (n : Int) (n : Int) (by omega) (by omega) (by rw [hb]; omega) (by omega)
  rw [hs, Int.toNat_natCast, Nat.mul_one] at h
  exact h
end Go.Proofs.Ytjckbdbjcgjcaaa
