/- The law on moved boxes: plain words. -/
import Derived.Test.YtlgnghehgcoccaaBoxFlatP
import Derived.Test.YtlgnghehgcoccaaBoxRule
namespace Go.Proofs.Ytlgnghehgcoccaa
open Go.RowKit
theorem wrapE (x : Int) : IntKind.i64.wrap x = wrap64 x := by rw [IntKind.wrap_i64]; unfold wrap64; omega
theorem wrap_swap (x u d : Int) : IntKind.i64.wrap (IntKind.i64.wrap (x + d) + u) = IntKind.i64.wrap (IntKind.i64.wrap (x + u) + d) := by
  simp only [wrapE]
  unfold wrap64
  omega
theorem wrap_zero (u d : Int) : IntKind.i64.wrap (0 + IntKind.i64.wrap (u + d)) = IntKind.i64.wrap (IntKind.i64.wrap (0 + u) + d) := by
  simp only [wrapE]
  unfold wrap64
  omega
/-- A place that is moved. -/
def Pl.mv (dx dy : Int) (p : Pl) : Pl := ⟨p.k, p.sz, p.nm, IntKind.i64.wrap (p.x + dx), IntKind.i64.wrap (p.y + dy), p.w, p.h, p.d⟩
theorem own_mv (t : Bx) (x y dx dy : Int) : ownPl t (IntKind.i64.wrap (x + dx)) (IntKind.i64.wrap (y + dy)) = (ownPl t x y).map (Pl.mv dx dy) := by
  unfold ownPl
  split
  · rfl
  · split <;> rfl
theorem flat_mv (n : Nat) : ∀ t : Bx, cntB t ≤ n → ∀ x y dx dy, flatB t (IntKind.i64.wrap (x + dx)) (IntKind.i64.wrap (y + dy)) = (flatB t x y).map (Pl.mv dx dy) := by
  induction n with
  | zero => intro t h; have := cntB_pos t; omega
  | succ n ih =>
    intro t h x y dx dy
    have hl : ∀ l : List Bx, cntL l ≤ n → flatL l (IntKind.i64.wrap (x + dx)) (IntKind.i64.wrap (y + dy)) = (flatL l x y).map (Pl.mv dx dy) := by
      intro l
      induction l with
      | nil => intro _; rw [flatL_nil, flatL_nil]; rfl
      | cons u us ih2 =>
        intro h2
        rw [cntL_cons] at h2
        rw [flatL_cons, flatL_cons, List.map_append, ih2 (by omega), wrap_swap x, wrap_swap y, ih u (by omega)]
    rw [cntB_eq] at h
    rw [flatB_eq, flatB_eq, List.map_append, own_mv, hl t.kids (by omega)]
/-- A kid that is moved. -/
def Bx.mvd (dx dy : Int) (u : Bx) : Bx := u.at_ (IntKind.i64.wrap (u.x + dx)) (IntKind.i64.wrap (u.y + dy))
def movK (dx dy : Int) (l : List Bx) : List Bx := l.map (Bx.mvd dx dy)
theorem movK_len (dx dy : Int) (l : List Bx) : (movK dx dy l).length = l.length := by simp [movK]
theorem movK_at {dx dy : Int} {l : List Bx} {i : Nat} (h : i < l.length) : kidAt (movK dx dy l) i = (kidAt l i).mvd dx dy := by
  simp [movK, kidAt, List.getD, h]
theorem movK_take {dx dy : Int} {l : List Bx} {i : Nat} (h : i < l.length) : movK dx dy (l.take (i + 1)) = movK dx dy (l.take i) ++ [(kidAt l i).mvd dx dy] := by
  rw [take_kid l h]; simp [movK]
theorem mvd_cnt (dx dy : Int) (u : Bx) : cntB (u.mvd dx dy) = cntB u := by rw [cntB_eq, cntB_eq]; rfl
theorem movK_cnt (dx dy : Int) : ∀ l : List Bx, cntL (movK dx dy l) = cntL l
  | [] => rfl
  | u :: us => by
    have h := movK_cnt dx dy us
    show cntL (u.mvd dx dy :: movK dx dy us) = _
    rw [cntL_cons, cntL_cons, mvd_cnt, h]
theorem flat_at (t : Bx) (p q x y : Int) : flatB (t.at_ p q) x y = flatB t x y := by rw [flatB_eq, flatB_eq]; rfl
theorem flat_movK (dx dy : Int) : ∀ l : List Bx, flatL (movK dx dy l) 0 0 = (flatL l 0 0).map (Pl.mv dx dy)
  | [] => by rw [flatL_nil]; show flatL [] 0 0 = _; rw [flatL_nil]; rfl
  | u :: us => by
    have h := flat_movK dx dy us
    show flatL (u.mvd dx dy :: movK dx dy us) 0 0 = _
    rw [flatL_cons, flatL_cons, h, List.map_append]
    show flatB (u.at_ _ _) (IntKind.i64.wrap (0 + IntKind.i64.wrap (u.x + dx))) (IntKind.i64.wrap (0 + IntKind.i64.wrap (u.y + dy))) ++ _ = _
    rw [flat_at, wrap_zero, wrap_zero, flat_mv (cntB u) u (Nat.le_refl _)]
/-- A list whose kids are moved. -/
def Bx.movB (dx dy : Int) (b : Bx) : Bx := .mk b.k b.nm b.sz b.w b.h b.d b.x b.y (movK dx dy b.kids) b.of_ b.src
theorem flat_movB (dx dy : Int) {b : Bx} (h : b.k = 3) : flatB (b.movB dx dy) 0 0 = (flatB b 0 0).map (Pl.mv dx dy) := by
  have ho : ∀ t : Bx, t.k = 3 → ownPl t 0 0 = [] := fun t ht => by unfold ownPl; rw [if_neg (by omega), if_neg (by omega)]
  rw [flatB_eq, flatB_eq, ho _ h, ho _ (show (b.movB dx dy).k = 3 from h)]
  exact flat_movK dx dy b.kids
theorem cnt_movB (dx dy : Int) (b : Bx) : cntB (b.movB dx dy) = cntB b := by rw [cntB_eq, cntB_eq]; show 1 + cntL (movK dx dy b.kids) = _; rw [movK_cnt]
theorem wrap_in' {x : Int} (h : -9223372036854775808 ≤ x ∧ x ≤ 9223372036854775807) : wrp x = x := by unfold wrp wrap64; omega
/-- The numbers of a box are small. -/
def nums5 (t : Bx) : Prop := rngL t.w ∧ rngL t.h ∧ rngL t.d ∧ rngL t.x ∧ rngL t.y
theorem nums_kid {b : Bx} (h : validB b) {i : Nat} (hi : i < b.kids.length) : nums5 (kidAt b.kids i) := by
  have h1 := ((properB_eq _).1 ((properL_iff _).1 ((properB_eq b).1 h.1).2 i hi)).1.1
  exact ⟨h1 0 (by omega), h1 1 (by omega), h1 2 (by omega), h1 3 (by omega), h1 4 (by omega)⟩
theorem ext_rng {l : List Bx} (hv : ∀ i, i < l.length → nums5 (kidAt l i)) {dx dy : Int} (hx : -32768 ≤ dx ∧ dx ≤ 32767) (hy : -32768 ≤ dy ∧ dy ≤ 32767) :
    ∀ n, n < l.length → extN (movK dx dy l) (n + 1) = ((extN l (n + 1)).1 + dx, (extN l (n + 1)).2.1 + dx, (extN l (n + 1)).2.2.1 + dy, (extN l (n + 1)).2.2.2 - dy) ∧
      (-2147483648 ≤ (extN l (n + 1)).1 ∧ (extN l (n + 1)).1 ≤ 2147483648) ∧ (-2147483648 ≤ (extN l (n + 1)).2.1 ∧ (extN l (n + 1)).2.1 ≤ 2147483648) ∧ (-2147483648 ≤ (extN l (n + 1)).2.2.1 ∧ (extN l (n + 1)).2.2.1 ≤ 2147483648) ∧ (-2147483648 ≤ (extN l (n + 1)).2.2.2 ∧ (extN l (n + 1)).2.2.2 ≤ 2147483648) := by
  have one : ∀ i, i < l.length → ext1 (kidAt (movK dx dy l) i) = ((kidAt l i).x + dx, (kidAt l i).x + (kidAt l i).w + dx, (kidAt l i).y + (kidAt l i).h + dy, (kidAt l i).d - (kidAt l i).y - dy) ∧
      ext1 (kidAt l i) = ((kidAt l i).x, (kidAt l i).x + (kidAt l i).w, (kidAt l i).y + (kidAt l i).h, (kidAt l i).d - (kidAt l i).y) := fun i hi => by
    obtain ⟨h1, h2, h3, h4, h5⟩ := hv i hi
    unfold rngL at h1 h2 h3 h4 h5
    rw [movK_at hi]
    generalize kidAt l i = u at h1 h2 h3 h4 h5 ⊢
    have ex : (u.mvd dx dy).x = u.x + dx := by show IntKind.i64.wrap (u.x + dx) = _; exact IntWalk.i64_in _ (by omega)
    have ey : (u.mvd dx dy).y = u.y + dy := by show IntKind.i64.wrap (u.y + dy) = _; exact IntWalk.i64_in _ (by omega)
    have ew : (u.mvd dx dy).w = u.w := rfl
    have eh : (u.mvd dx dy).h = u.h := rfl
    have ed : (u.mvd dx dy).d = u.d := rfl
    unfold ext1
    rw [ex, ey, ew, eh, ed, wrap_in' (by omega), wrap_in' (by omega), wrap_in' (by omega), wrap_in' (by omega), wrap_in' (by omega), wrap_in' (by omega)]
    refine ⟨?_, rfl⟩
    rw [show u.x + dx + u.w = u.x + u.w + dx by omega, show u.y + dy + u.h = u.y + u.h + dy by omega, show u.d - (u.y + dy) = u.d - u.y - dy by omega]
  intro n
  induction n with
  | zero =>
    intro h
    obtain ⟨h1, h2, h3, h4, h5⟩ := hv 0 h
    unfold rngL at h1 h2 h3 h4 h5
    obtain ⟨o1, o2⟩ := one 0 h
    show ext1 (kidAt (movK dx dy l) 0) = ((ext1 (kidAt l 0)).1 + dx, (ext1 (kidAt l 0)).2.1 + dx, (ext1 (kidAt l 0)).2.2.1 + dy, (ext1 (kidAt l 0)).2.2.2 - dy) ∧
      (-2147483648 ≤ (ext1 (kidAt l 0)).1 ∧ (ext1 (kidAt l 0)).1 ≤ 2147483648) ∧ (-2147483648 ≤ (ext1 (kidAt l 0)).2.1 ∧ (ext1 (kidAt l 0)).2.1 ≤ 2147483648) ∧ (-2147483648 ≤ (ext1 (kidAt l 0)).2.2.1 ∧ (ext1 (kidAt l 0)).2.2.1 ≤ 2147483648) ∧ (-2147483648 ≤ (ext1 (kidAt l 0)).2.2.2 ∧ (ext1 (kidAt l 0)).2.2.2 ≤ 2147483648)
    rw [o1, o2]
    refine ⟨rfl, ?_, ?_, ?_, ?_⟩ <;> dsimp only <;> omega
  | succ n ih =>
    intro h
    obtain ⟨e, b1, b2, b3, b4⟩ := ih (by omega)
    obtain ⟨h1, h2, h3, h4, h5⟩ := hv (n + 1) h
    unfold rngL at h1 h2 h3 h4 h5
    obtain ⟨o1, o2⟩ := one (n + 1) h
    rw [extN_succ (movK dx dy l) (Nat.succ_pos n), extN_succ l (Nat.succ_pos n), e, o1, o2]
    generalize extN l (n + 1) = X at b1 b2 b3 b4 ⊢
    obtain ⟨x1, x2, x3, x4⟩ := X
    generalize kidAt l (n + 1) = u at h1 h2 h3 h4 h5 ⊢
    dsimp only at b1 b2 b3 b4
    unfold join4
    dsimp only
    refine ⟨?_, ?_, ?_, ?_, ?_⟩
    · refine Prod.ext ?_ (Prod.ext ?_ (Prod.ext ?_ ?_)) <;> dsimp only <;> split <;> split <;> omega
    all_goals split <;> omega
end Go.Proofs.Ytlgnghehgcoccaa
