/- Boxes as trees, and the memory in which they lie. -/
import Derived.Below
import Derived.Deep.Draws
import Derived.WalkKit
import Derived.Lib.Hide
import Derived.BigQuiet
import Derived.RangeFuncBox
namespace Go.Proofs.Ytlgnghehgcoccaa
open Go.RowKit
/-- A box. -/
inductive Bx where
  | mk (k : Int) (nm : ByteArray) (sz w h d x y : Int) (kids : List Bx) (of_ : Int) (src : List Int)
namespace Bx
def k : Bx → Int | .mk k _ _ _ _ _ _ _ _ _ _ => k
def nm : Bx → ByteArray | .mk _ nm _ _ _ _ _ _ _ _ _ => nm
def sz : Bx → Int | .mk _ _ sz _ _ _ _ _ _ _ _ => sz
def w : Bx → Int | .mk _ _ _ w _ _ _ _ _ _ _ => w
def h : Bx → Int | .mk _ _ _ _ h _ _ _ _ _ _ => h
def d : Bx → Int | .mk _ _ _ _ _ d _ _ _ _ _ => d
def x : Bx → Int | .mk _ _ _ _ _ _ x _ _ _ _ => x
def y : Bx → Int | .mk _ _ _ _ _ _ _ y _ _ _ => y
def kids : Bx → List Bx | .mk _ _ _ _ _ _ _ _ kids _ _ => kids
def of_ : Bx → Int | .mk _ _ _ _ _ _ _ _ _ of_ _ => of_
def src : Bx → List Int | .mk _ _ _ _ _ _ _ _ _ _ src => src
theorem eta (t : Bx) : t = .mk t.k t.nm t.sz t.w t.h t.d t.x t.y t.kids t.of_ t.src := by cases t; rfl
theorem ext' {a b : Bx} (h1 : a.k = b.k) (h2 : a.nm = b.nm) (h3 : a.sz = b.sz) (h4 : a.w = b.w) (h5 : a.h = b.h) (h6 : a.d = b.d) (h7 : a.x = b.x) (h8 : a.y = b.y) (h9 : a.kids = b.kids) (h10 : a.of_ = b.of_) (h11 : a.src = b.src) : a = b := by
  rw [eta a, eta b, h1, h2, h3, h4, h5, h6, h7, h8, h9, h10, h11]
end Bx
instance : Inhabited Bx := ⟨.mk 0 ⟨#[]⟩ 0 0 0 0 0 0 [] 0 []⟩
mutual
/-- How many boxes there are. -/
def cntB : Bx → Nat
  | .mk _ _ _ _ _ _ _ _ kids _ _ => 1 + cntL kids
def cntL : List Bx → Nat
  | [] => 0
  | t :: ts => cntB t + cntL ts
end
mutual
/-- How many boxes the longest way down holds. -/
def nestB : Bx → Nat
  | .mk _ _ _ _ _ _ _ _ kids _ _ => nestL kids + 1
def nestL : List Bx → Nat
  | [] => 0
  | t :: ts => max (nestB t) (nestL ts)
end
theorem cntB_eq (t : Bx) : cntB t = 1 + cntL t.kids := by cases t; unfold cntB; rfl
theorem nestB_eq (t : Bx) : nestB t = nestL t.kids + 1 := by cases t; unfold nestB; rfl
theorem cntL_nil : cntL [] = 0 := by unfold cntL; rfl
theorem cntL_cons (t : Bx) (ts : List Bx) : cntL (t :: ts) = cntB t + cntL ts := by rw [cntL]
theorem nestL_nil : nestL [] = 0 := by unfold nestL; rfl
theorem nestL_cons (t : Bx) (ts : List Bx) : nestL (t :: ts) = max (nestB t) (nestL ts) := by rw [nestL]
theorem cntB_pos (t : Bx) : 1 ≤ cntB t := by rw [cntB_eq]; omega
/-- Kid i. -/
def kidAt (l : List Bx) (i : Nat) : Bx := l.getD i default
theorem cntL_append : ∀ a b : List Bx, cntL (a ++ b) = cntL a + cntL b
  | [], b => by simp [cntL_nil]
  | t :: ts, b => by rw [List.cons_append, cntL_cons, cntL_cons, cntL_append ts b]; omega
theorem nestL_append : ∀ a b : List Bx, nestL (a ++ b) = max (nestL a) (nestL b)
  | [], b => by simp [nestL_nil]
  | t :: ts, b => by rw [List.cons_append, nestL_cons, nestL_cons, nestL_append ts b]; omega
theorem take_kid (l : List Bx) {i : Nat} (h : i < l.length) : l.take (i + 1) = l.take i ++ [kidAt l i] := by
  rw [List.take_succ_eq_append_getElem h]
  simp [kidAt, List.getD, h]
theorem cnt_take (l : List Bx) {i : Nat} (h : i < l.length) : cntL (l.take (i + 1)) = cntL (l.take i) + cntB (kidAt l i) := by
  rw [take_kid l h, cntL_append, cntL_cons, cntL_nil]; omega
theorem nest_take (l : List Bx) {i : Nat} (h : i < l.length) : nestL (l.take (i + 1)) = max (nestL (l.take i)) (nestB (kidAt l i)) := by
  rw [take_kid l h, nestL_append, nestL_cons, nestL_nil]; omega
theorem cnt_take_le (l : List Bx) (i : Nat) : cntL (l.take i) ≤ cntL l := by
  have := cntL_append (l.take i) (l.drop i)
  rw [List.take_append_drop] at this
  omega
theorem cnt_kid (l : List Bx) {i : Nat} (h : i < l.length) : cntB (kidAt l i) ≤ cntL l := by
  have := cnt_take l h
  have := cnt_take_le l (i + 1)
  omega
theorem cnt_len (l : List Bx) : l.length ≤ cntL l := by
  induction l with
  | nil => simp
  | cons t ts ih => rw [cntL_cons, List.length_cons]; have := cntB_pos t; omega
theorem nest_cnt (n : Nat) : ∀ t : Bx, cntB t ≤ n → nestB t ≤ cntB t := by
  induction n with
  | zero => intro t h; have := cntB_pos t; omega
  | succ n ih =>
    intro t h
    have hl : ∀ l : List Bx, cntL l ≤ n → nestL l ≤ cntL l := by
      intro l
      induction l with
      | nil => intro _; simp [nestL_nil]
      | cons u us ih2 =>
        intro h2
        rw [cntL_cons] at h2 ⊢
        rw [nestL_cons]
        have := ih u (by omega)
        have := ih2 (by omega)
        omega
    rw [cntB_eq] at h ⊢
    rw [nestB_eq]
    have := hl t.kids (by omega)
    omega
/-! ### Memory -/
def lenMax : Nat := 9223372036854775807
def lAt (l : List Int) (k : Nat) : Int := l.getD k 0
/-- The cells from A on, in a block from lo to below hi, hold the numbers l. -/
def Ints (w : World) (lo hi : Nat) (A : Option Addr) (l : List Int) : Prop :=
  0 < l.length → ∃ b off, A = some ⟨b, off, none⟩ ∧ lo ≤ b ∧ b < hi ∧ ∀ k, k < l.length → w.cell? ⟨b, off + k, none⟩ = some (.int .i64 (lAt l k))
/-- The cells of a box. -/
abbrev bxA (t : Bx) (A : Option Addr) (c : Nat) (A' : Option Addr) (c' : Nat) : Array Value :=
  #[.int .i64 t.k, .string t.nm, .int .i64 t.sz, .int .i64 t.w, .int .i64 t.h, .int .i64 t.d, .int .i64 t.x, .int .i64 t.y, .slice A t.kids.length c, .int .i64 t.of_, .slice A' t.src.length c']
/-- The lengths of a box are those of things in memory. -/
def lens (t : Bx) : Prop := t.nm.size ≤ lenMax ∧ t.src.length ≤ lenMax ∧ t.kids.length ≤ lenMax
/-- The cells from A on hold the boxes l, whose own memory lies from block lo to below hi. -/
inductive Kids (w : World) (lo hi : Nat) : Option Addr → List Bx → Prop
  | mk (A : Option Addr) (l : List Bx) (K K' : Nat → Option Addr) (C C' : Nat → Nat)
    (hA : 0 < l.length → ∃ b off, A = some ⟨b, off, none⟩ ∧ lo ≤ b ∧ b < hi ∧ ∀ i, i < l.length → ∀ j, j < 11 → w.cell? ⟨b, off + i * 11 + j, none⟩ = (bxA (kidAt l i) (K i) (C i) (K' i) (C' i))[j]?)
    (hS : ∀ i, i < l.length → Ints w lo hi (K' i) (kidAt l i).src) (hN : ∀ i, i < l.length → lens (kidAt l i)) (hK : ∀ i, i < l.length → Kids w lo hi (K i) (kidAt l i).kids) : Kids w lo hi A l
theorem Ints.below {w w' : World} {lo hi : Nat} {A : Option Addr} {l : List Int} (h : Ints w lo hi A l) (hb : Below hi w w') : Ints w' lo hi A l := fun h0 => by
  obtain ⟨b, off, rfl, hL, hB, hc⟩ := h h0
  exact ⟨b, off, rfl, hL, hB, fun k hk => (hb.cell (p := ⟨b, _, none⟩) hB).trans (hc k hk)⟩
theorem Ints.mono {w : World} {lo hi lo' hi' : Nat} {A : Option Addr} {l : List Int} (h : Ints w lo hi A l) (hl : lo' ≤ lo) (hh : hi ≤ hi') : Ints w lo' hi' A l := fun h0 => by
  obtain ⟨b, off, rfl, hL, hB, hc⟩ := h h0
  exact ⟨b, off, rfl, by omega, by omega, hc⟩
theorem Ints.next {w w' : World} {lo : Nat} {A : Option Addr} {l : List Int} (h : Ints w lo w.heap.size A l) (hb : Below w.heap.size w w') : Ints w' lo w'.heap.size A l := (h.below hb).mono (Nat.le_refl _) hb.size
theorem Kids.low {w w' : World} {lo hi : Nat} {A : Option Addr} {l : List Bx} (h : Kids w lo hi A l) (hb : Below hi w w') : Kids w' lo hi A l := by
  induction h with
  | mk A l K K' C C' hA hS hN hK ih =>
    refine .mk A l K K' C C' (fun h0 => ?_) (fun i hi' => (hS i hi').below hb) hN ih
    obtain ⟨b, off, rfl, hL, hB, hc⟩ := hA h0
    exact ⟨b, off, rfl, hL, hB, fun i hi' j hj => (hb.cell (p := ⟨b, _, none⟩) hB).trans (hc i hi' j hj)⟩
theorem Kids.mono {w : World} {lo hi lo' hi' : Nat} {A : Option Addr} {l : List Bx} (h : Kids w lo hi A l) (hl : lo' ≤ lo) (hh : hi ≤ hi') : Kids w lo' hi' A l := by
  induction h with
  | mk A l K K' C C' hA hS hN hK ih =>
    refine .mk A l K K' C C' (fun h0 => ?_) (fun i hi' => (hS i hi').mono hl hh) hN ih
    obtain ⟨b, off, rfl, hL, hB, hc⟩ := hA h0
    exact ⟨b, off, rfl, by omega, by omega, hc⟩
theorem Kids.next {w w' : World} {lo : Nat} {A : Option Addr} {l : List Bx} (h : Kids w lo w.heap.size A l) (hb : Below w.heap.size w w') : Kids w' lo w'.heap.size A l := (h.low hb).mono (Nat.le_refl _) hb.size
/-- The cells at a place hold a box. -/
def BoxAt (w : World) (b o : Nat) (t : Bx) (A : Option Addr) (c : Nat) (A' : Option Addr) (c' : Nat) : Prop :=
  ∀ j, j < 11 → w.cell? ⟨b, o + j, none⟩ = (bxA t A c A' c')[j]?
theorem Kids.at {w : World} {lo hi : Nat} {A : Option Addr} {l : List Bx} (h : Kids w lo hi A l) {i : Nat} (hi' : i < l.length) :
    ∃ b off A1 c1 A2 c2, A = some ⟨b, off, none⟩ ∧ lo ≤ b ∧ b < hi ∧ BoxAt w b (off + i * 11) (kidAt l i) A1 c1 A2 c2 ∧ Kids w lo hi A1 (kidAt l i).kids ∧ Ints w lo hi A2 (kidAt l i).src ∧ lens (kidAt l i) := by
  cases h with
  | mk _ _ K K' C C' hA hS hN hK =>
    obtain ⟨b, off, rfl, hL, hB, hc⟩ := hA (by omega)
    exact ⟨b, off, K i, C i, K' i, C' i, rfl, hL, hB, hc i hi', hK i hi', hS i hi', hN i hi'⟩
theorem Kids.nil (w : World) (lo hi : Nat) (A : Option Addr) : Kids w lo hi A [] := .mk A [] (fun _ => none) (fun _ => none) (fun _ => 0) (fun _ => 0) (fun h => absurd h (by simp)) (fun i h => absurd h (by simp)) (fun i h => absurd h (by simp)) (fun i h => absurd h (by simp))
theorem BoxAt.cells {w : World} {b o : Nat} {t : Bx} {A : Option Addr} {c : Nat} {A' : Option Addr} {c' : Nat} (h : BoxAt w b o t A c A' c') :
    w.cell? ⟨b, o, none⟩ = some (.int .i64 t.k) ∧ w.cell? ⟨b, o + 1, none⟩ = some (.string t.nm) ∧ w.cell? ⟨b, o + 2, none⟩ = some (.int .i64 t.sz) ∧ w.cell? ⟨b, o + 3, none⟩ = some (.int .i64 t.w) ∧ w.cell? ⟨b, o + 4, none⟩ = some (.int .i64 t.h) ∧ w.cell? ⟨b, o + 5, none⟩ = some (.int .i64 t.d) ∧
    w.cell? ⟨b, o + 6, none⟩ = some (.int .i64 t.x) ∧ w.cell? ⟨b, o + 7, none⟩ = some (.int .i64 t.y) ∧ w.cell? ⟨b, o + 8, none⟩ = some (.slice A t.kids.length c) ∧ w.cell? ⟨b, o + 9, none⟩ = some (.int .i64 t.of_) ∧ w.cell? ⟨b, o + 10, none⟩ = some (.slice A' t.src.length c') :=
  ⟨h 0 (by omega), h 1 (by omega), h 2 (by omega), h 3 (by omega), h 4 (by omega), h 5 (by omega), h 6 (by omega), h 7 (by omega), h 8 (by omega), h 9 (by omega), h 10 (by omega)⟩
theorem BoxAt.below {w w' : World} {b o : Nat} {t : Bx} {A : Option Addr} {c : Nat} {A' : Option Addr} {c' : Nat} (h : BoxAt w b o t A c A' c') {B : Nat} (hb : Below B w w') (hB : b < B) : BoxAt w' b o t A c A' c' := fun j hj => (hb.cell (p := ⟨b, _, none⟩) hB).trans (h j hj)
theorem below_next {a w w' : World} (h : Below a.heap.size a w) (hb : Below w.heap.size w w') : Below a.heap.size a w' := h.trans (hb.mono h.size)
theorem below_drewN {B : Nat} {a w : World} (h : Below B a w) (n : Nat) : Below B a (w.drewN n) := by
  refine ⟨h.os, h.tape, h.output, h.size, h.block⟩
theorem ret_bool {a b : Bool} (h : a = b) : Ending.returned (.bool a) = .returned (.bool b) := by rw [h]
theorem blk_new (w : World) (o : Obj) : (w.alloc o).heap[w.heap.size]? = some o := World.alloc_heap_new w o
theorem blk_more {w : World} {b : Nat} {o : Obj} (h : w.heap[b]? = some o) (o' : Obj) : (w.alloc o').heap[b]? = some o := (Below.heap_alloc w o' b (Array.getElem?_eq_some_iff.1 h).1).trans h
theorem blk_cell {W : World} {b : Nat} {cs : Array Value} {t : TypeId} (h : W.heap[b]? = some (.cells cs t (0, 0))) (k : Nat) (v : Value) (hk : cs[k]? = some v) : W.cell? ⟨b, k, none⟩ = some v := (cell_of_row W b k cs t (0, 0) h).trans hk
theorem blk_free {W : World} {b : Nat} {cs : Array Value} {t : TypeId} (h : W.heap[b]? = some (.cells cs t (0, 0))) (k : Nat) : W.frozen? ⟨b, k, none⟩ = false := by simp [World.frozen?, h]
theorem blk_set {W : World} {b : Nat} {cs : Array Value} {t : TypeId} (h : W.heap[b]? = some (.cells cs t (0, 0))) (k : Nat) (v : Value) : (W.setCell ⟨b, k, none⟩ v).heap[b]? = some (.cells (cs.setIfInBounds k v) t (0, 0)) := by
  simp [World.setCell, Array.getElem?_modify, h]
theorem blk_far {W : World} {b : Nat} {o : Obj} (h : W.heap[b]? = some o) {p : Addr} (hp : b ≠ p.block) (v : Value) : (W.setCell p v).heap[b]? = some o := (Below.heap_setCell W p v b hp).trans h
theorem one_below (w : World) (a : Obj) : Below w.heap.size w (w.alloc a) := (Below.refl _ w).alloc (Nat.le_refl _) _
theorem two_below (w : World) (a b : Obj) : Below w.heap.size w ((w.alloc a).alloc b) := ((Below.refl _ w).alloc (Nat.le_refl _) _).alloc (by simp) _
/-- A box that has been laid into a block of its own. -/
theorem box_laid {w W : World} {cs : Array Value} {t : TypeId} (hb : Below (w.alloc (.cells cs t)).heap.size (w.alloc (.cells cs t)) W) : W.heap[w.heap.size]? = some (.cells cs t (0, 0)) := (hb.block w.heap.size (by simp)).trans (blk_new w _)
theorem yes_iff {p : Prop} (h : p) : true = true ↔ p := ⟨fun _ => h, fun _ => rfl⟩
theorem no_iff {p : Prop} (h : ¬ p) : false = true ↔ p := ⟨fun e => (by cases e), fun e => absurd e h⟩
/-- A world in which all below b lies as in W (a structure of its own, so that simp leaves it whole). -/
structure Bel (b : Nat) (W : World) where
  v : World
  h : Below b W v
instance {b : Nat} {W : World} : Nonempty (Bel b W) := ⟨⟨W, Below.refl _ _⟩⟩
/-- A region that draws its order, whose callees make memory and change nothing that was there. -/
theorem wp_region_bel {P : Program} {id : Nat} {Q : Exit → Act → World → Prop} {a : Act} {w : World} {l : List Oper} (hm : P.follows .mixedOrders = true) (hB : Region.lexB .any l.toArray = true)
    (h : wpQuiet P l.toArray (fun w' => ∃ v : Bel w.heap.size w, w' = v.v) (fun a' => ∀ w', (∃ v : Bel w.heap.size w, w' = v.v) → Q .normal a' w') l a) : (Code.region id l.toArray true).wp P Q a w :=
  wp_region_quiet (C := fun w' => ∃ v : Bel w.heap.size w, w' = v.v) hm hB ⟨⟨_, (Below.refl _ _).drew⟩, rfl⟩ (by simpa using h)
end Go.Proofs.Ytlgnghehgcoccaa
