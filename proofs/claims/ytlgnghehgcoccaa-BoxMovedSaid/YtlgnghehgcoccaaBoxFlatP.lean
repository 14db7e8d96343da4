/- The glyphs and rules of a box, with their places: plain words. -/
import Derived.Test.YtlgnghehgcoccaaBoxPlain
import Derived.Test.YtlgnghehgcoccaaBoxMake
namespace Go.Proofs.Ytlgnghehgcoccaa
open Go.RowKit
structure Pl where
  k : Int
  sz : Int
  nm : ByteArray
  x : Int
  y : Int
  w : Int
  h : Int
  d : Int
abbrev Pl.row (p : Pl) : Array Value := #[.int .i64 p.k, .int .i64 p.sz, .string p.nm, .int .i64 p.x, .int .i64 p.y, .int .i64 p.w, .int .i64 p.h, .int .i64 p.d]
def plC : List Pl → List Value
  | [] => []
  | p :: ps => p.row.toList ++ plC ps
theorem plC_append : ∀ a b : List Pl, plC (a ++ b) = plC a ++ plC b
  | [], b => rfl
  | p :: ps, b => by simp [plC, plC_append ps b]
theorem plC_len : ∀ l : List Pl, (plC l).length = l.length * 8
  | [] => rfl
  | p :: ps => by rw [plC, List.length_append, plC_len ps, List.length_cons]; simp; omega
theorem plC_one (l : List Pl) : ∀ u ∈ plC l, u.oneCell' = true := by
  induction l with
  | nil => intro u h; cases h
  | cons p ps ih =>
    intro u hu
    rw [plC] at hu
    rcases List.mem_append.1 hu with h | h
    · simp at h
      rcases h with rfl | rfl | rfl | rfl | rfl | rfl | rfl | rfl <;> rfl
    · exact ih u h
theorem plC_at : ∀ (l : List Pl) (i j : Nat) (p : Pl), l[i]? = some p → j < 8 → (plC l)[i * 8 + j]? = p.row[j]?
  | [], i, j, p, h, _ => by simp at h
  | q :: qs, 0, j, p, h, hj => by
    simp at h
    subst h
    rw [plC, Nat.zero_mul, Nat.zero_add, List.getElem?_append_left (by simpa using hj), Array.getElem?_toList]
  | q :: qs, i + 1, j, p, h, hj => by
    have e : q.row.toList.length = 8 := rfl
    rw [plC, List.getElem?_append_right (by rw [e]; omega), e, show (i + 1) * 8 + j - 8 = i * 8 + j by omega]
    exact plC_at qs i j p (by simpa using h) hj
/-- What a box itself gives. -/
def ownPl (t : Bx) (x y : Int) : List Pl :=
  if t.k = 1 then [⟨1, t.sz, t.nm, x, y, t.w, t.h, t.d⟩] else if t.k = 2 then [⟨2, 0, ⟨#[]⟩, x, y, t.w, t.h, t.d⟩] else []
mutual
def flatB : Bx → Int → Int → List Pl
  | .mk k nm sz w h d bx bz kids of_ src, x, y => ownPl (.mk k nm sz w h d bx bz kids of_ src) x y ++ flatL kids x y
def flatL : List Bx → Int → Int → List Pl
  | [], _, _ => []
  | t :: ts, x, y => flatB t (IntKind.i64.wrap (x + t.x)) (IntKind.i64.wrap (y + t.y)) ++ flatL ts x y
end
theorem flatB_eq (t : Bx) (x y : Int) : flatB t x y = ownPl t x y ++ flatL t.kids x y := by
  cases t
  rw [flatB]
  rfl
theorem flatL_nil (x y : Int) : flatL [] x y = [] := by rw [flatL]
theorem flatL_cons (t : Bx) (ts : List Bx) (x y : Int) : flatL (t :: ts) x y = flatB t (IntKind.i64.wrap (x + t.x)) (IntKind.i64.wrap (y + t.y)) ++ flatL ts x y := by rw [flatL]
theorem flatL_append (x y : Int) : ∀ a b : List Bx, flatL (a ++ b) x y = flatL a x y ++ flatL b x y
  | [], b => by rw [flatL_nil]; rfl
  | t :: ts, b => by rw [List.cons_append, flatL_cons, flatL_cons, flatL_append x y ts b, List.append_assoc]
theorem flat_take {l : List Bx} {i : Nat} (h : i < l.length) (x y : Int) : flatL (l.take (i + 1)) x y = flatL (l.take i) x y ++ flatB (kidAt l i) (IntKind.i64.wrap (x + (kidAt l i).x)) (IntKind.i64.wrap (y + (kidAt l i).y)) := by
  rw [take_kid l h, flatL_append, flatL_cons, flatL_nil, List.append_nil]
theorem own_len (t : Bx) (x y : Int) : (ownPl t x y).length ≤ 1 := by
  unfold ownPl
  split
  · exact Nat.le_refl _
  · split
    · exact Nat.le_refl _
    · exact Nat.zero_le _
theorem flat_len (n : Nat) : ∀ t : Bx, cntB t ≤ n → ∀ x y, (flatB t x y).length ≤ cntB t := by
  induction n with
  | zero => intro t h; have := cntB_pos t; omega
  | succ n ih =>
    intro t h x y
    have hl : ∀ l : List Bx, cntL l ≤ n → (flatL l x y).length ≤ cntL l := by
      intro l
      induction l with
      | nil => intro _; rw [flatL_nil]; exact Nat.zero_le _
      | cons u us ih2 =>
        intro h2
        rw [cntL_cons] at h2 ⊢
        rw [flatL_cons, List.length_append]
        have := ih u (by omega) (IntKind.i64.wrap (x + u.x)) (IntKind.i64.wrap (y + u.y))
        have := ih2 (by omega)
        omega
    rw [cntB_eq] at h ⊢
    rw [flatB_eq, List.length_append]
    have := hl t.kids (by omega)
    have := own_len t x y
    omega
theorem flatL_len (l : List Bx) (x y : Int) : (flatL l x y).length ≤ cntL l := by
  induction l with
  | nil => rw [flatL_nil]; exact Nat.zero_le _
  | cons u us ih =>
    rw [flatL_cons, List.length_append, cntL_cons]
    have := flat_len (cntB u) u (Nat.le_refl _) (IntKind.i64.wrap (x + u.x)) (IntKind.i64.wrap (y + u.y))
    omega
/-- A slice A holds the places l. -/
def PlAt (w : World) (A : Option Addr) (l : List Pl) : Prop := 0 < l.length → ∃ b off, A = some ⟨b, off, none⟩ ∧ b < w.heap.size ∧ ∀ j u, (plC l)[j]? = some u → w.cell? ⟨b, off + j, none⟩ = some u
theorem PlAt.next {w w' : World} {A : Option Addr} {l : List Pl} (h : PlAt w A l) (hb : Below w.heap.size w w') : PlAt w' A l := fun h0 => by
  obtain ⟨b, off, rfl, hB, hc⟩ := h h0
  exact ⟨b, off, rfl, Nat.lt_of_lt_of_le hB hb.size, fun j u hu => (hb.cell (p := ⟨b, off + j, none⟩) hB).trans (hc j u hu)⟩
theorem Pl.row_one (p : Pl) : ∀ v ∈ p.row.toList, v.oneCell' = true := by
  intro v h
  simp at h
  rcases h with rfl | rfl | rfl | rfl | rfl | rfl | rfl | rfl <;> rfl
end Go.Proofs.Ytlgnghehgcoccaa
