/- The memory of boxes, rows of boxes, and laws on whole cells. -/
import Derived.Below
import Derived.Deep.Draws
import Derived.WalkKit
import Derived.Lib.Hide
import Derived.BigQuiet
import Derived.RangeFuncBox
import Derived.Maps.AppendAt
import Derived.Deep.AppendLies
import Derived.OwnWalk
import Derived.Test.YtjckbdbjcgjcaaaChecked
import Derived.Laws.MakeOwn
import Derived.Laws.CopyRow
import Derived.Laws.Cells
import Derived.Laws.ResultCell
import Derived.Lib.SliceRun
import Derived.Laws.CopyOwn
/- Boxes as trees, and the memory in which they lie. -/
namespace Go.Proofs.Ytjckbdbjcgjcaaa
open Go.RowKit
/-- A box. -/
inductive Bx where
  | mk (k : Int) (nm : ByteArray) (sz w h d x y : Int) (kids : List Bx) (of_ : Int) (src : List Int)
namespace Bx
def k : Bx → Int | .mk k _ _ _ _ _ _ _ _ _ _ => k
def nm : Bx → ByteArray | .mk _ nm _ _ _ _ _ _ _ _ _ => nm
def sz : Bx → Int | .mk _ _ sz _ _ _ _ _ _ _ _ => sz
def w : Bx → Int | .mk _ _ _ w _ _ _ _ _ _ _ => w
def h : Bx → Int | .mk _ _ _ _ h _ _ _ _ _ _ => h
def d : Bx → Int | .mk _ _ _ _ _ d _ _ _ _ _ => d
def x : Bx → Int | .mk _ _ _ _ _ _ x _ _ _ _ => x
def y : Bx → Int | .mk _ _ _ _ _ _ _ y _ _ _ => y
def kids : Bx → List Bx | .mk _ _ _ _ _ _ _ _ kids _ _ => kids
def of_ : Bx → Int | .mk _ _ _ _ _ _ _ _ _ of_ _ => of_
def src : Bx → List Int | .mk _ _ _ _ _ _ _ _ _ _ src => src
theorem eta (t : Bx) : t = .mk t.k t.nm t.sz t.w t.h t.d t.x t.y t.kids t.of_ t.src := by cases t; rfl
theorem ext' {a b : Bx} (h1 : a.k = b.k) (h2 : a.nm = b.nm) (h3 : a.sz = b.sz) (h4 : a.w = b.w) (h5 : a.h = b.h) (h6 : a.d = b.d) (h7 : a.x = b.x) (h8 : a.y = b.y) (h9 : a.kids = b.kids) (h10 : a.of_ = b.of_) (h11 : a.src = b.src) : a = b := by
  rw [eta a, eta b, h1, h2, h3, h4, h5, h6, h7, h8, h9, h10, h11]
end Bx
instance : Inhabited Bx := ⟨.mk 0 ⟨#[]⟩ 0 0 0 0 0 0 [] 0 []⟩
mutual
/-- How many boxes there are. -/
def cntB : Bx → Nat
  | .mk _ _ _ _ _ _ _ _ kids _ _ => 1 + cntL kids
def cntL : List Bx → Nat
  | [] => 0
  | t :: ts => cntB t + cntL ts
end
mutual
/-- How many boxes the longest way down holds. -/
def nestB : Bx → Nat
  | .mk _ _ _ _ _ _ _ _ kids _ _ => nestL kids + 1
def nestL : List Bx → Nat
  | [] => 0
  | t :: ts => max (nestB t) (nestL ts)
end
theorem cntB_eq (t : Bx) : cntB t = 1 + cntL t.kids := by cases t; unfold cntB; rfl
theorem nestB_eq (t : Bx) : nestB t = nestL t.kids + 1 := by cases t; unfold nestB; rfl
theorem cntL_nil : cntL [] = 0 := by unfold cntL; rfl
theorem cntL_cons (t : Bx) (ts : List Bx) : cntL (t :: ts) = cntB t + cntL ts := by rw [cntL]
theorem nestL_nil : nestL [] = 0 := by unfold nestL; rfl
theorem nestL_cons (t : Bx) (ts : List Bx) : nestL (t :: ts) = max (nestB t) (nestL ts) := by rw [nestL]
theorem cntB_pos (t : Bx) : 1 ≤ cntB t := by rw [cntB_eq]; omega
/-- Kid i. -/
def kidAt (l : List Bx) (i : Nat) : Bx := l.getD i default
theorem cntL_append : ∀ a b : List Bx, cntL (a ++ b) = cntL a + cntL b
  | [], b => by simp [cntL_nil]
  | t :: ts, b => by rw [List.cons_append, cntL_cons, cntL_cons, cntL_append ts b]; omega
theorem nestL_append : ∀ a b : List Bx, nestL (a ++ b) = max (nestL a) (nestL b)
  | [], b => by simp [nestL_nil]
  | t :: ts, b => by rw [List.cons_append, nestL_cons, nestL_cons, nestL_append ts b]; omega
theorem take_kid (l : List Bx) {i : Nat} (h : i < l.length) : l.take (i + 1) = l.take i ++ [kidAt l i] := by
  rw [List.take_succ_eq_append_getElem h]
  simp [kidAt, List.getD, h]
theorem cnt_take (l : List Bx) {i : Nat} (h : i < l.length) : cntL (l.take (i + 1)) = cntL (l.take i) + cntB (kidAt l i) := by
  rw [take_kid l h, cntL_append, cntL_cons, cntL_nil]; omega
theorem nest_take (l : List Bx) {i : Nat} (h : i < l.length) : nestL (l.take (i + 1)) = max (nestL (l.take i)) (nestB (kidAt l i)) := by
  rw [take_kid l h, nestL_append, nestL_cons, nestL_nil]; omega
theorem cnt_take_le (l : List Bx) (i : Nat) : cntL (l.take i) ≤ cntL l := by
  have := cntL_append (l.take i) (l.drop i)
  rw [List.take_append_drop] at this
  omega
theorem cnt_kid (l : List Bx) {i : Nat} (h : i < l.length) : cntB (kidAt l i) ≤ cntL l := by
  have := cnt_take l h
  have := cnt_take_le l (i + 1)
  omega
theorem cnt_len (l : List Bx) : l.length ≤ cntL l := by
  induction l with
  | nil => simp
  | cons t ts ih => rw [cntL_cons, List.length_cons]; have := cntB_pos t; omega
theorem nest_cnt (n : Nat) : ∀ t : Bx, cntB t ≤ n → nestB t ≤ cntB t := by
  induction n with
  | zero => intro t h; have := cntB_pos t; omega
  | succ n ih =>
    intro t h
    have hl : ∀ l : List Bx, cntL l ≤ n → nestL l ≤ cntL l := by
      intro l
      induction l with
      | nil => intro _; simp [nestL_nil]
      | cons u us ih2 =>
        intro h2
        rw [cntL_cons] at h2 ⊢
        rw [nestL_cons]
        have := ih u (by omega)
        have := ih2 (by omega)
        omega
    rw [cntB_eq] at h ⊢
    rw [nestB_eq]
    have := hl t.kids (by omega)
    omega
/-! ### Memory -/
def lenMax : Nat := 9223372036854775807
def lAt (l : List Int) (k : Nat) : Int := l.getD k 0
/-- The cells from A on, in a block from lo to below hi, hold the numbers l. -/
def Ints (w : World) (lo hi : Nat) (A : Option Addr) (l : List Int) : Prop :=
  0 < l.length → ∃ b off, A = some ⟨b, off, none⟩ ∧ lo ≤ b ∧ b < hi ∧ ∀ k, k < l.length → w.cell? ⟨b, off + k, none⟩ = some (.int .i64 (lAt l k))
/-- The cells of a box. -/
abbrev bxA (t : Bx) (A : Option Addr) (c : Nat) (A' : Option Addr) (c' : Nat) : Array Value :=
  #[.int .i64 t.k, .string t.nm, .int .i64 t.sz, .int .i64 t.w, .int .i64 t.h, .int .i64 t.d, .int .i64 t.x, .int .i64 t.y, .slice A t.kids.length c, .int .i64 t.of_, .slice A' t.src.length c']
/-- The lengths of a box are those of things in memory. -/
def lens (t : Bx) : Prop := t.nm.size ≤ lenMax ∧ t.src.length ≤ lenMax ∧ t.kids.length ≤ lenMax
/-- The cells from A on hold the boxes l, whose own memory lies from block lo to below hi. -/
inductive Kids (w : World) (lo hi : Nat) : Option Addr → List Bx → Prop
  | mk (A : Option Addr) (l : List Bx) (K K' : Nat → Option Addr) (C C' : Nat → Nat)
    (hA : 0 < l.length → ∃ b off, A = some ⟨b, off, none⟩ ∧ lo ≤ b ∧ b < hi ∧ ∀ i, i < l.length → ∀ j, j < 11 → w.cell? ⟨b, off + i * 11 + j, none⟩ = (bxA (kidAt l i) (K i) (C i) (K' i) (C' i))[j]?)
    (hS : ∀ i, i < l.length → Ints w lo hi (K' i) (kidAt l i).src) (hN : ∀ i, i < l.length → lens (kidAt l i)) (hK : ∀ i, i < l.length → Kids w lo hi (K i) (kidAt l i).kids) : Kids w lo hi A l
theorem Ints.below {w w' : World} {lo hi : Nat} {A : Option Addr} {l : List Int} (h : Ints w lo hi A l) (hb : Below hi w w') : Ints w' lo hi A l := fun h0 => by
  obtain ⟨b, off, rfl, hL, hB, hc⟩ := h h0
  exact ⟨b, off, rfl, hL, hB, fun k hk => (hb.cell (p := ⟨b, _, none⟩) hB).trans (hc k hk)⟩
theorem Ints.mono {w : World} {lo hi lo' hi' : Nat} {A : Option Addr} {l : List Int} (h : Ints w lo hi A l) (hl : lo' ≤ lo) (hh : hi ≤ hi') : Ints w lo' hi' A l := fun h0 => by
  obtain ⟨b, off, rfl, hL, hB, hc⟩ := h h0
  exact ⟨b, off, rfl, by omega, by omega, hc⟩
theorem Ints.next {w w' : World} {lo : Nat} {A : Option Addr} {l : List Int} (h : Ints w lo w.heap.size A l) (hb : Below w.heap.size w w') : Ints w' lo w'.heap.size A l := (h.below hb).mono (Nat.le_refl _) hb.size
theorem Kids.low {w w' : World} {lo hi : Nat} {A : Option Addr} {l : List Bx} (h : Kids w lo hi A l) (hb : Below hi w w') : Kids w' lo hi A l := by
  induction h with
  | mk A l K K' C C' hA hS hN hK ih =>
    refine .mk A l K K' C C' (fun h0 => ?_) (fun i hi' => (hS i hi').below hb) hN ih
    obtain ⟨b, off, rfl, hL, hB, hc⟩ := hA h0
    exact ⟨b, off, rfl, hL, hB, fun i hi' j hj => (hb.cell (p := ⟨b, _, none⟩) hB).trans (hc i hi' j hj)⟩
theorem Kids.mono {w : World} {lo hi lo' hi' : Nat} {A : Option Addr} {l : List Bx} (h : Kids w lo hi A l) (hl : lo' ≤ lo) (hh : hi ≤ hi') : Kids w lo' hi' A l := by
  induction h with
  | mk A l K K' C C' hA hS hN hK ih =>
    refine .mk A l K K' C C' (fun h0 => ?_) (fun i hi' => (hS i hi').mono hl hh) hN ih
    obtain ⟨b, off, rfl, hL, hB, hc⟩ := hA h0
    exact ⟨b, off, rfl, by omega, by omega, hc⟩
theorem Kids.next {w w' : World} {lo : Nat} {A : Option Addr} {l : List Bx} (h : Kids w lo w.heap.size A l) (hb : Below w.heap.size w w') : Kids w' lo w'.heap.size A l := (h.low hb).mono (Nat.le_refl _) hb.size
/-- The cells at a place hold a box. -/
def BoxAt (w : World) (b o : Nat) (t : Bx) (A : Option Addr) (c : Nat) (A' : Option Addr) (c' : Nat) : Prop :=
  ∀ j, j < 11 → w.cell? ⟨b, o + j, none⟩ = (bxA t A c A' c')[j]?
theorem Kids.at {w : World} {lo hi : Nat} {A : Option Addr} {l : List Bx} (h : Kids w lo hi A l) {i : Nat} (hi' : i < l.length) :
    ∃ b off A1 c1 A2 c2, A = some ⟨b, off, none⟩ ∧ lo ≤ b ∧ b < hi ∧ BoxAt w b (off + i * 11) (kidAt l i) A1 c1 A2 c2 ∧ Kids w lo hi A1 (kidAt l i).kids ∧ Ints w lo hi A2 (kidAt l i).src ∧ lens (kidAt l i) := by
  cases h with
  | mk _ _ K K' C C' hA hS hN hK =>
    obtain ⟨b, off, rfl, hL, hB, hc⟩ := hA (by omega)
    exact ⟨b, off, K i, C i, K' i, C' i, rfl, hL, hB, hc i hi', hK i hi', hS i hi', hN i hi'⟩
theorem Kids.nil (w : World) (lo hi : Nat) (A : Option Addr) : Kids w lo hi A [] := .mk A [] (fun _ => none) (fun _ => none) (fun _ => 0) (fun _ => 0) (fun h => absurd h (by simp)) (fun i h => absurd h (by simp)) (fun i h => absurd h (by simp)) (fun i h => absurd h (by simp))
theorem BoxAt.cells {w : World} {b o : Nat} {t : Bx} {A : Option Addr} {c : Nat} {A' : Option Addr} {c' : Nat} (h : BoxAt w b o t A c A' c') :
    w.cell? ⟨b, o, none⟩ = some (.int .i64 t.k) ∧ w.cell? ⟨b, o + 1, none⟩ = some (.string t.nm) ∧ w.cell? ⟨b, o + 2, none⟩ = some (.int .i64 t.sz) ∧ w.cell? ⟨b, o + 3, none⟩ = some (.int .i64 t.w) ∧ w.cell? ⟨b, o + 4, none⟩ = some (.int .i64 t.h) ∧ w.cell? ⟨b, o + 5, none⟩ = some (.int .i64 t.d) ∧
    w.cell? ⟨b, o + 6, none⟩ = some (.int .i64 t.x) ∧ w.cell? ⟨b, o + 7, none⟩ = some (.int .i64 t.y) ∧ w.cell? ⟨b, o + 8, none⟩ = some (.slice A t.kids.length c) ∧ w.cell? ⟨b, o + 9, none⟩ = some (.int .i64 t.of_) ∧ w.cell? ⟨b, o + 10, none⟩ = some (.slice A' t.src.length c') :=
  ⟨h 0 (by omega), h 1 (by omega), h 2 (by omega), h 3 (by omega), h 4 (by omega), h 5 (by omega), h 6 (by omega), h 7 (by omega), h 8 (by omega), h 9 (by omega), h 10 (by omega)⟩
theorem BoxAt.below {w w' : World} {b o : Nat} {t : Bx} {A : Option Addr} {c : Nat} {A' : Option Addr} {c' : Nat} (h : BoxAt w b o t A c A' c') {B : Nat} (hb : Below B w w') (hB : b < B) : BoxAt w' b o t A c A' c' := fun j hj => (hb.cell (p := ⟨b, _, none⟩) hB).trans (h j hj)
theorem below_next {a w w' : World} (h : Below a.heap.size a w) (hb : Below w.heap.size w w') : Below a.heap.size a w' := h.trans (hb.mono h.size)
theorem below_drewN {B : Nat} {a w : World} (h : Below B a w) (n : Nat) : Below B a (w.drewN n) := by
  refine ⟨h.os, h.tape, h.output, h.size, h.block⟩
theorem ret_bool {a b : Bool} (h : a = b) : Ending.returned (.bool a) = .returned (.bool b) := by rw [h]
theorem blk_new (w : World) (o : Obj) : (w.alloc o).heap[w.heap.size]? = some o := World.alloc_heap_new w o
theorem blk_more {w : World} {b : Nat} {o : Obj} (h : w.heap[b]? = some o) (o' : Obj) : (w.alloc o').heap[b]? = some o := (Below.heap_alloc w o' b (Array.getElem?_eq_some_iff.1 h).1).trans h
theorem blk_cell {W : World} {b : Nat} {cs : Array Value} {t : TypeId} (h : W.heap[b]? = some (.cells cs t (0, 0))) (k : Nat) (v : Value) (hk : cs[k]? = some v) : W.cell? ⟨b, k, none⟩ = some v := (cell_of_row W b k cs t (0, 0) h).trans hk
theorem blk_free {W : World} {b : Nat} {cs : Array Value} {t : TypeId} (h : W.heap[b]? = some (.cells cs t (0, 0))) (k : Nat) : W.frozen? ⟨b, k, none⟩ = false := by simp [World.frozen?, h]
theorem blk_set {W : World} {b : Nat} {cs : Array Value} {t : TypeId} (h : W.heap[b]? = some (.cells cs t (0, 0))) (k : Nat) (v : Value) : (W.setCell ⟨b, k, none⟩ v).heap[b]? = some (.cells (cs.setIfInBounds k v) t (0, 0)) := by
  simp [World.setCell, Array.getElem?_modify, h]
theorem blk_far {W : World} {b : Nat} {o : Obj} (h : W.heap[b]? = some o) {p : Addr} (hp : b ≠ p.block) (v : Value) : (W.setCell p v).heap[b]? = some o := (Below.heap_setCell W p v b hp).trans h
theorem one_below (w : World) (a : Obj) : Below w.heap.size w (w.alloc a) := (Below.refl _ w).alloc (Nat.le_refl _) _
theorem two_below (w : World) (a b : Obj) : Below w.heap.size w ((w.alloc a).alloc b) := ((Below.refl _ w).alloc (Nat.le_refl _) _).alloc (by simp) _
/-- A box that has been laid into a block of its own. -/
theorem box_laid {w W : World} {cs : Array Value} {t : TypeId} (hb : Below (w.alloc (.cells cs t)).heap.size (w.alloc (.cells cs t)) W) : W.heap[w.heap.size]? = some (.cells cs t (0, 0)) := (hb.block w.heap.size (by simp)).trans (blk_new w _)
theorem yes_iff {p : Prop} (h : p) : true = true ↔ p := ⟨fun _ => h, fun _ => rfl⟩
theorem no_iff {p : Prop} (h : ¬ p) : false = true ↔ p := ⟨fun e => (by cases e), fun e => absurd e h⟩
/-- A world in which all below b lies as in W (a structure of its own, so that simp leaves it whole). -/
structure Bel (b : Nat) (W : World) where
  v : World
  h : Below b W v
instance {b : Nat} {W : World} : Nonempty (Bel b W) := ⟨⟨W, Below.refl _ _⟩⟩
/-- A region that draws its order, whose callees make memory and change nothing that was there. -/
theorem wp_region_bel {P : Program} {id : Nat} {Q : Exit → Act → World → Prop} {a : Act} {w : World} {l : List Oper} (hm : P.follows .mixedOrders = true) (hB : Region.lexB .any l.toArray = true)
    (h : wpQuiet P l.toArray (fun w' => ∃ v : Bel w.heap.size w, w' = v.v) (fun a' => ∀ w', (∃ v : Bel w.heap.size w, w' = v.v) → Q .normal a' w') l a) : (Code.region id l.toArray true).wp P Q a w :=
  wp_region_quiet (C := fun w' => ∃ v : Bel w.heap.size w, w' = v.v) hm hB ⟨⟨_, (Below.refl _ _).drew⟩, rfl⟩ (by simpa using h)
end Go.Proofs.Ytjckbdbjcgjcaaa
/- When a box is valid: plain words. -/
namespace Go.Proofs.Ytjckbdbjcgjcaaa
def byteAt (s : ByteArray) (i : Nat) : Nat := if h : i < s.size then (s[i]'h).toNat else 0
theorem byteAt_in {s : ByteArray} {i : Nat} (h : i < s.size) : (s[i]'h).toNat = byteAt s i := by unfold byteAt; rw [dif_pos h]
def nameOk (s : ByteArray) : Prop := (1 ≤ s.size ∧ s.size ≤ 16) ∧ ∀ i, i < s.size → 32 ≤ byteAt s i ∧ byteAt s i ≤ 126
def srcOk (t : Bx) : Prop := (∀ k, k < t.src.length → 0 ≤ lAt t.src k) ∧ ((t.of_ = 0 ∧ t.src.length = 0) ∨ (t.of_ = 1 ∧ t.src.length % 2 = 0 ∧ t.src.length ≤ 48) ∨ (t.of_ = 2 ∧ t.src.length % 2 = 1 ∧ t.src.length ≤ 49))
def numL (t : Bx) : List Int := [t.w, t.h, t.d, t.x, t.y]
def rngL (n : Int) : Prop := -1073741824 ≤ n ∧ n ≤ 1073741824
def numOk (t : Bx) : Prop := ∀ k, k < 5 → rngL (lAt (numL t) k)
def kindOk (t : Bx) : Prop := (t.k = 1 ∧ nameOk t.nm ∧ 1 ≤ t.sz ∧ t.sz ≤ 1000 ∧ t.kids.length = 0) ∨ (t.k = 2 ∧ t.nm.toList = [] ∧ t.sz = 0 ∧ t.kids.length = 0) ∨ (t.k = 3 ∧ t.nm.toList = [] ∧ t.sz = 0)
/-- The fields of a box are as they have to be. -/
def ownOk (t : Bx) : Prop := numOk t ∧ kindOk t ∧ srcOk t
mutual
/-- All boxes are as they have to be. -/
def properB : Bx → Prop
  | .mk k nm sz w h d x y kids of_ src => ownOk (.mk k nm sz w h d x y kids of_ src) ∧ properL kids
def properL : List Bx → Prop
  | [] => True
  | t :: ts => properB t ∧ properL ts
end
theorem properB_eq (t : Bx) : properB t ↔ ownOk t ∧ properL t.kids := by
  cases t
  unfold properB
  exact Iff.rfl
theorem properL_cons (t : Bx) (ts : List Bx) : properL (t :: ts) ↔ properB t ∧ properL ts := by rw [properL]
theorem properL_nil : properL [] := by unfold properL; trivial
theorem properL_iff : ∀ l : List Bx, properL l ↔ ∀ i, i < l.length → properB (kidAt l i)
  | [] => ⟨fun _ i h => absurd h (by simp), fun _ => properL_nil⟩
  | t :: ts => by
    rw [properL_cons, properL_iff ts]
    constructor
    · rintro ⟨h1, h2⟩ i hi
      cases i with
      | zero => exact h1
      | succ i => exact h2 i (by simpa using hi)
    · intro h
      exact ⟨h 0 (by simp), fun i hi => h (i + 1) (by simpa using hi)⟩
/-- A box is valid. -/
def validB (t : Bx) : Prop := properB t ∧ cntB t ≤ 20000 ∧ nestB t ≤ 100
theorem bool_of (p : Prop) : ∃ r : Bool, r = true ↔ p := by
  by_cases h : p
  · exact ⟨true, by simp [h]⟩
  · exact ⟨false, by simp [h]⟩
theorem is_true {r : Bool} {p : Prop} (h : r = true ↔ p) (hp : p) : true = r := (h.2 hp).symm
theorem is_false {r : Bool} {p : Prop} (h : r = true ↔ p) (hp : ¬ p) : false = r := by
  cases r with
  | false => rfl
  | true => exact absurd (h.1 rfl) hp
end Go.Proofs.Ytjckbdbjcgjcaaa
/- append of one element, whatever its cells are, onto a list of the call's own. -/
namespace Go.Proofs.Ytjckbdbjcgjcaaa
open Go.RowKit
section
variable {P : Program} {w : World}
/-- The first n elements of a list of the call's own. -/
theorem own_take {base n m c size : Nat} {e : TypeId} {A : Option Addr} {xs : List Value} (h : w.ownsRow base e size (.slice A n c) n xs) (hm : m ≤ n) (hA : A ≠ none) : w.ownsRow base e size (.slice A m c) m (xs.take (m * size)) := by
  obtain ⟨h1, h2⟩ := h
  have hmn : m * size ≤ n * size := Nat.mul_le_mul_right _ hm
  refine ⟨by rw [List.length_take, h1, Nat.min_eq_left hmn], ?_⟩
  rcases h2 with ⟨h2, _⟩ | ⟨g, cap, cur, hv, hg, hh, hc, hl, hs, ht⟩
  · injection h2 with h3
    exact absurd h3 hA
  · injection hv with h3 _ h4
    subst h3 h4
    exact .inr ⟨g, c, cur, rfl, hg, hh, by omega, hl, hs, by rw [← ht, List.take_take, Nat.min_eq_left hmn]⟩
theorem own_below {base n size : Nat} {e : TypeId} {v : Value} {xs : List Value} {w' : World} (h : w.ownsRow base e size v n xs) (hb : Below w.heap.size w w') : w'.ownsRow base e size v n xs := by
  obtain ⟨h1, h2⟩ := h
  refine ⟨h1, ?_⟩
  rcases h2 with h2 | ⟨g, cap, cur, hv, hg, hh, r⟩
  · exact Or.inl h2
  · exact Or.inr ⟨g, cap, cur, hv, hg, by rw [hb.block g (Array.getElem?_eq_some_iff.1 hh).1]; exact hh, r⟩
/-- Its cells. -/
theorem own_cell {base n c size : Nat} {e : TypeId} {A : Option Addr} {xs : List Value} (h : w.ownsRow base e size (.slice A n c) n xs) (h0 : 0 < n) : ∃ g, A = some ⟨g, 0, none⟩ ∧ base ≤ g ∧ g < w.heap.size ∧ n ≤ c ∧ ∀ k u, xs[k]? = some u → w.cell? ⟨g, k, none⟩ = some u := by
  obtain ⟨h1, h2⟩ := h
  rcases h2 with ⟨h2, h3⟩ | ⟨g, cap, cur, hv, hg, hh, hc, hl, hs, ht⟩
  · omega
  · injection hv with h3 _ h4
    subst h3 h4
    refine ⟨g, rfl, hg, (Array.getElem?_eq_some_iff.1 hh).1, hc, fun k u hu => ?_⟩
    rw [← ht, List.getElem?_take] at hu
    split at hu
    · rw [Array.getElem?_toList] at hu
      exact (cell_of_row w g k cur e (0, 0) hh).trans hu
    · cases hu
theorem own_one {g size : Nat} {e : TypeId} {news : Array Value} (hg : w.heap[g]? = some (.cells news e (0, 0))) (hs : news.size = size) : w.ownsRow g e size (.slice (some ⟨g, 0, none⟩) 1 1) 1 news.toList :=
  ⟨by simp [hs], .inr ⟨g, 1, news, rfl, Nat.le_refl _, hg, Nat.le_refl _, by unfold maxLen; omega, by omega, by
    rw [Nat.one_mul, ← hs]
    exact List.take_of_length_le (by simp)⟩⟩
theorem run_append_el (t ty e : TypeId) (i : TypeInfo) (z : Value) (size bytes : Nat) (ht : P.underlying t = some (.slice e)) (hi : P.info? e = some i) (hz : i.zero = some z) (hsize : i.size = size) (hby : i.bytes = bytes) (hzs : z.cells.size = size) (hsz : 0 < size)
    {base c n : Nat} {A : Option Addr} {xs : List Value} (hown : w.ownsRow base e size (.slice A n c) n xs) {g c1 : Nat} {news : Array Value} (hg : w.heap[g]? = some (.cells news e (0, 0))) (hl : news.size = size) (h1 : ∀ u ∈ news.toList, u.oneCell' = true) (hn : n + 1 ≤ maxLen) (hb : (n + 1) * bytes ≤ 140737488355328) (hbase : base ≤ w.heap.size) :
    ∃ A' c' w', (Builtin.append_ #[t, t] ty #[.slice A n c, .slice (some ⟨g, 0, none⟩) 1 c1]).run P w = .ok (.slice A' (n + 1) c') w' ∧ w'.ownsRow base e size (.slice A' (n + 1) c') (n + 1) (xs ++ news.toList) ∧ Below base w w' := by
  obtain ⟨v', w', hrun, hown', hgrow, _, _⟩ := run_append_own_at (P := P) (w := w) base t ty e i z size bytes ht hi hz hsize hby hzs hsz _ n xs hown ⟨g, 0, none⟩ 1 c1 news.toList (by simp [hl]) (fun j u hu => by
      rw [Array.getElem?_toList] at hu
      have : (⟨g, 0, none⟩ : Addr).add j = ⟨g, j, none⟩ := by
        unfold Addr.add
        by_cases h : j = 0
        · subst h; simp
        · simp [h]
      rw [this]
      exact (cell_of_row w g j news e (0, 0) hg).trans hu) h1 hn hb hbase
  obtain ⟨g', cap', hv, _, _⟩ := hown'.form (by omega)
  subst hv
  refine ⟨_, _, w', hrun, hown', (Below.refl _ _).grown hgrow hbase (fun k hk => ?_)⟩
  rcases hown.2 with ⟨h1, _⟩ | ⟨g2, cap, cur, h1, h2, _⟩
  · rw [h1] at hk; simp [Value.ownBlock] at hk
  · rw [h1] at hk; simp [Value.ownBlock] at hk; omega
theorem wpList_append_el {ops : Array Oper} {rest : List Oper} {o : Oper} {a : Act} {Q : Exit → Act → World → Prop} (hgd : o.guard = none) (s x : Operand) (t e : TypeId)
    (ho : o.op = .call { callee := .builtin .append, args := #[s, x], argTypes := #[t, t] }) (i : TypeInfo) (z : Value) (size bytes : Nat) (ht : P.underlying t = some (.slice e)) (hi : P.info? e = some i) (hz : i.zero = some z) (hsize : i.size = size) (hby : i.bytes = bytes) (hzs : z.cells.size = size) (hsz : 0 < size)
    {base c n : Nat} {A : Option Addr} {xs : List Value} (hs : a.eval s = .slice A n c) (hown : w.ownsRow base e size (.slice A n c) n xs) {g c1 : Nat} {news : Array Value} (hx : a.eval x = .slice (some ⟨g, 0, none⟩) 1 c1) (hg : w.heap[g]? = some (.cells news e (0, 0))) (hl : news.size = size) (h1 : ∀ u ∈ news.toList, u.oneCell' = true) (hn : n + 1 ≤ maxLen) (hb : (n + 1) * bytes ≤ 140737488355328) (hbase : base ≤ w.heap.size)
    (h : ∀ A' c' w', w'.ownsRow base e size (.slice A' (n + 1) c') (n + 1) (xs ++ news.toList) → Below base w w' → wpList P ops Q rest (a.put o.dst (.slice A' (n + 1) c')) w') : wpList P ops Q (o :: rest) a w := by
  refine wpList_plain hgd fun K hK => ?_
  obtain ⟨A', c', w', hrun, h2, h3⟩ := run_append_el (P := P) t o.type e i z size bytes ht hi hz hsize hby hzs hsz hown hg hl h1 hn hb hbase (c1 := c1)
  unfold Oper.wp execOp
  simp only [ho, resolve, invoke, builtin, Sem.run_bind, Sem.run_pure, Result.andThen_ok, List.map_toArray, List.map_cons, List.map_nil, hs, hx, hrun]
  exact hK _ _ (h A' c' w' h2 h3)
end
end Go.Proofs.Ytjckbdbjcgjcaaa
/- Stacks of pointers to boxes; the program's Count. -/
namespace Go.Proofs.Ytjckbdbjcgjcaaa
open Go.RowKit
theorem info_parts {P : Program} {t : TypeId} {z : Value} {s b : Nat} (h : (P.info? t).map (fun i => (i.zero, i.size, i.bytes)) = some (some z, s, b)) : ∃ i, P.info? t = some i ∧ i.zero = some z ∧ i.size = s ∧ i.bytes = b := by
  cases hi : P.info? t with
  | none => rw [hi] at h; cases h
  | some i =>
    rw [hi] at h
    simp only [Option.map_some, Option.some.injEq, Prod.mk.injEq] at h
    exact ⟨i, rfl, h.1, h.2.1, h.2.2⟩
theorem infoPtr : (Try.prog.info? 81).map (fun i => (i.zero, i.size, i.bytes)) = some (some (.pointer none), 1, 8) := by kernel_rfl
/-- A pointer to a box, whose memory lies below block hi. -/
def Ent (W : World) (hi : Nat) (v : Value) (t : Bx) : Prop := ∃ b o A c A' c', v = .pointer (some ⟨b, o, none⟩) ∧ b < hi ∧ BoxAt W b o t A c A' c' ∧ Kids W 0 hi A t.kids ∧ Ints W 0 hi A' t.src ∧ lens t
/-- A stack of such pointers. -/
def Stk (W : World) (hi : Nat) : List Value → List Bx → Prop
  | [], [] => True
  | v :: vs, t :: ts => Ent W hi v t ∧ Stk W hi vs ts
  | _, _ => False
theorem Stk.len {W : World} {hi : Nat} : ∀ {vs : List Value} {ts : List Bx}, Stk W hi vs ts → vs.length = ts.length
  | [], [], _ => rfl
  | v :: vs, t :: ts, h => by simp [Stk.len h.2]
  | [], _ :: _, h => h.elim
  | _ :: _, [], h => h.elim
theorem Stk.append {W : World} {hi : Nat} : ∀ {vs : List Value} {ts : List Bx} {vs' : List Value} {ts' : List Bx}, Stk W hi vs ts → Stk W hi vs' ts' → Stk W hi (vs ++ vs') (ts ++ ts')
  | [], [], _, _, _, h => h
  | _v :: _vs, _t :: _ts, _, _, h, h' => ⟨h.1, Stk.append h.2 h'⟩
  | [], _ :: _, _, _, h, _ => h.elim
  | _ :: _, [], _, _, h, _ => h.elim
theorem Stk.one {W : World} {hi : Nat} {v : Value} {t : Bx} (h : Ent W hi v t) : Stk W hi [v] [t] := ⟨h, trivial⟩
theorem Stk.last {W : World} {hi : Nat} : ∀ {vs : List Value} {ts : List Bx}, Stk W hi vs ts → 0 < vs.length → ∃ vs' v ts' t, vs = vs' ++ [v] ∧ ts = ts' ++ [t] ∧ Stk W hi vs' ts' ∧ Ent W hi v t
  | [], _, _, h0 => absurd h0 (by simp)
  | [v], t :: ts, h, _ => by
    have : ts = [] := by
      cases ts with
      | nil => rfl
      | cons a b => exact h.2.elim
    subst this
    exact ⟨[], v, [], t, rfl, rfl, trivial, h.1⟩
  | v :: v2 :: vs, t :: ts, h, _ => by
    obtain ⟨vs', x, ts', y, e1, e2, h1, h2⟩ := Stk.last h.2 (by simp)
    exact ⟨v :: vs', x, t :: ts', y, by rw [e1]; rfl, by rw [e2]; rfl, ⟨h.1, h1⟩, h2⟩
  | _ :: _, [], h, _ => h.elim
/-- The pointers to the first n kids. -/
def kptr (b off : Nat) (n : Nat) : List Value := (List.range n).map fun j => .pointer (some ⟨b, off + j * 11, none⟩)
theorem kptr_succ (b off n : Nat) : kptr b off (n + 1) = kptr b off n ++ [.pointer (some ⟨b, off + n * 11, none⟩)] := by unfold kptr; rw [List.range_succ, List.map_append]; rfl
theorem kptr_len (b off n : Nat) : (kptr b off n).length = n := by simp [kptr]
theorem kptr_stk {W : World} {hi : Nat} {b off : Nat} {l : List Bx} (h : Kids W 0 hi (some ⟨b, off, none⟩) l) : ∀ n, n ≤ l.length → Stk W hi (kptr b off n) (l.take n)
  | 0, _ => by simp [kptr, Stk]
  | n + 1, hn => by
    rw [kptr_succ, take_kid l (by omega)]
    refine (kptr_stk h n (by omega)).append (Stk.one ?_)
    obtain ⟨b', off', A1, c1, A2, c2, e, _, hb, hat, hk, hi', hl⟩ := h.at (show n < l.length by omega)
    injection e with e1
    injection e1 with e2 e3
    subst e2 e3
    exact ⟨_, _, A1, c1, A2, c2, rfl, hb, hat, hk, hi', hl⟩
/-- The pointers to the first n kids from A on. -/
def kptrA : Option Addr → Nat → List Value
  | some a, n => kptr a.block a.off n
  | none, _ => []
theorem kptrA_zero (A : Option Addr) : kptrA A 0 = [] := by cases A <;> rfl
theorem kptrA_len {W : World} {hi : Nat} {A : Option Addr} {l : List Bx} (h : Kids W 0 hi A l) : (kptrA A l.length).length = l.length := by
  by_cases h0 : 0 < l.length
  · obtain ⟨b, off, _, _, _, _, rfl, _⟩ := h.at h0
    exact kptr_len _ _ _
  · have : l.length = 0 := by omega
    rw [this, kptrA_zero]; rfl
theorem kptrA_stk {W : World} {hi : Nat} {A : Option Addr} {l : List Bx} (h : Kids W 0 hi A l) : Stk W hi (kptrA A l.length) l := by
  by_cases h0 : 0 < l.length
  · obtain ⟨b, off, _, _, _, _, rfl, _⟩ := h.at h0
    have := kptr_stk h l.length (Nat.le_refl _)
    rw [List.take_length] at this
    exact this
  · have h1 : l = [] := List.eq_nil_of_length_eq_zero (by omega)
    subst h1
    rw [show (([] : List Bx).length) = 0 from rfl, kptrA_zero]
    exact trivial
theorem pop_take (vs' : List Value) (v : Value) : (vs' ++ [v]).take ((vs' ++ [v]).length - 1) = vs' := by simp
theorem cntL_one (t : Bx) : cntL [t] = cntB t := by rw [cntL_cons, cntL_nil]; rfl
end Go.Proofs.Ytjckbdbjcgjcaaa
/- append of a slice that came in onto a new empty list, whatever its elements are. -/
namespace Go.Proofs.Ytjckbdbjcgjcaaa
open Go.RowKit
section
variable {P : Program} {w : World}
theorem add_at (b off j : Nat) : (⟨b, off, none⟩ : Addr).add j = ⟨b, off + j, none⟩ := by
  unfold Addr.add
  by_cases h : j = 0
  · subst h; simp
  · simp [h]
theorem own_empty_any {g size : Nat} {e : TypeId} (hg : w.heap[g]? = some (.cells #[] e (0, 0))) : w.ownsRow g e size (.slice (some ⟨g, 0, none⟩) 0 0) 0 [] :=
  ⟨by simp, .inr ⟨g, 0, #[], rfl, Nat.le_refl _, hg, Nat.le_refl _, Nat.zero_le _, by simp, by simp⟩⟩
/-- A slice A of n elements is a copy in a block of its own, from g on, that holds news. -/
def Copied (g : Nat) (e : TypeId) (news : List Value) (n : Nat) (A : Option Addr) (w' : World) : Prop :=
  0 < n → ∃ (b : Nat) (cur : Array Value), A = some ⟨b, 0, none⟩ ∧ g ≤ b ∧ w'.heap[b]? = some (.cells cur e (0, 0)) ∧ ∀ (j : Nat) (u : Value), news[j]? = some u → cur[j]? = some u
theorem run_append_copy (t ty e : TypeId) (i : TypeInfo) (z : Value) (size bytes : Nat) (ht : P.underlying t = some (.slice e)) (hi : P.info? e = some i) (hz : i.zero = some z) (hsize : i.size = size) (hby : i.bytes = bytes) (hzs : z.cells.size = size) (hsz : 0 < size)
    {g : Nat} (hg : w.heap[g]? = some (.cells #[] e (0, 0))) {A : Option Addr} {n c : Nat} (news : List Value) (hl : news.length = n * size)
    (hsrc : 0 < n → ∃ b off, A = some ⟨b, off, none⟩ ∧ ∀ j u, news[j]? = some u → w.cell? ⟨b, off + j, none⟩ = some u) (h1 : ∀ u ∈ news, u.oneCell' = true) (hn : n ≤ maxLen) (hb : n * bytes ≤ 140737488355328) :
    ∃ A' c' w', (Builtin.append_ #[t, t] ty #[.slice (some ⟨g, 0, none⟩) 0 0, .slice A n c]).run P w = .ok (.slice A' n c') w' ∧ Copied g e news n A' w' ∧ Below g w w' := by
  have hlt : g < w.heap.size := (Array.getElem?_eq_some_iff.1 hg).1
  by_cases h0 : 0 < n
  · obtain ⟨b, off, rfl, hc⟩ := hsrc h0
    obtain ⟨v', w', hrun, hown, hgrow, _, hat⟩ := run_append_own_at (P := P) (w := w) g t ty e i z size bytes ht hi hz hsize hby hzs hsz _ 0 [] (own_empty_any hg) ⟨b, off, none⟩ n c news hl
      (fun j u hu => by rw [add_at]; exact hc j u hu) h1 (by omega) (by simpa using hb) (by omega)
    obtain ⟨g', cap', hv, _, _⟩ := hown.form (by omega)
    subst hv
    rw [Nat.zero_add, List.nil_append] at hown
    rw [Nat.zero_add] at hrun
    refine ⟨_, _, w', hrun, fun _ => ?_, (Below.refl _ _).grown hgrow (by omega) (fun k hk => by simp [Value.ownBlock] at hk; omega)⟩
    rcases hown.2 with ⟨h, _⟩ | ⟨g2, cap2, cur, hv, hg2, hh, _, _, hcs, htake⟩
    · cases h
    · injection hv with hv1 _ _
      injection hv1 with hv2
      injection hv2 with hv3
      subst hv3
      refine ⟨g', cur, rfl, hg2, hh, fun j u hu => ?_⟩
      rw [← htake] at hu
      rw [List.getElem?_take] at hu
      split at hu
      · rw [Array.getElem?_toList] at hu
        exact hu
      · cases hu
  · obtain rfl : n = 0 := by omega
    have hnil : news = [] := List.eq_nil_of_length_eq_zero (by simpa using hl)
    subst hnil
    rcases A with _ | ad
    · refine ⟨some ⟨g, 0, none⟩, 0, w, ?_, fun h => absurd h (Nat.lt_irrefl _), Below.refl _ _⟩
      simp [Builtin.append_, run_underlying ht, sizeOf, typeInfo, hi, Builtin.lenOf, Builtin.firstCells, storeCells]
    · obtain ⟨v', w', hrun, hown, hgrow, hnil, hat⟩ := run_append_own_at (P := P) (w := w) g t ty e i z size bytes ht hi hz hsize hby hzs hsz _ 0 [] (own_empty_any hg) ad 0 c [] (by simp) (fun j u hu => by simp at hu) (fun u hu => by simp at hu) (by unfold maxLen; omega) (by simp) (by omega)
      rcases hown.2 with ⟨rfl, _⟩ | ⟨g', cap, cur, rfl, _⟩
      · have := (hnil.1 rfl).1
        cases this
      · exact ⟨_, _, w', hrun, fun h => absurd h (Nat.lt_irrefl _), (Below.refl _ _).grown hgrow (by omega) (fun k hk => by simp [Value.ownBlock] at hk; omega)⟩
theorem wpList_append_copy {ops : Array Oper} {rest : List Oper} {o : Oper} {a : Act} {Q : Exit → Act → World → Prop} (hgd : o.guard = none) (s x : Operand) (t e : TypeId)
    (ho : o.op = .call { callee := .builtin .append, args := #[s, x], argTypes := #[t, t] }) (i : TypeInfo) (z : Value) (size bytes : Nat) (ht : P.underlying t = some (.slice e)) (hi : P.info? e = some i) (hz : i.zero = some z) (hsize : i.size = size) (hby : i.bytes = bytes) (hzs : z.cells.size = size) (hsz : 0 < size)
    {g : Nat} {A : Option Addr} {n c : Nat} (hs : a.eval s = .slice (some ⟨g, 0, none⟩) 0 0) (hx : a.eval x = .slice A n c) (hg : w.heap[g]? = some (.cells #[] e (0, 0))) (news : List Value) (hl : news.length = n * size)
    (hsrc : 0 < n → ∃ b off, A = some ⟨b, off, none⟩ ∧ ∀ j u, news[j]? = some u → w.cell? ⟨b, off + j, none⟩ = some u) (h1 : ∀ u ∈ news, u.oneCell' = true) (hn : n ≤ maxLen) (hb : n * bytes ≤ 140737488355328)
    (h : ∀ A' c' w', Copied g e news n A' w' → Below g w w' → wpList P ops Q rest (a.put o.dst (.slice A' n c')) w') : wpList P ops Q (o :: rest) a w := by
  refine wpList_plain hgd fun K hK => ?_
  obtain ⟨A', c', w', hrun, h2, h3⟩ := run_append_copy (P := P) t o.type e i z size bytes ht hi hz hsize hby hzs hsz hg news hl hsrc h1 hn hb (c := c)
  unfold Oper.wp execOp
  simp only [ho, resolve, invoke, builtin, Sem.run_bind, Sem.run_pure, Result.andThen_ok, List.map_toArray, List.map_cons, List.map_nil, hs, hx, hrun]
  exact hK _ _ (h A' c' w' h2 h3)
end
end Go.Proofs.Ytjckbdbjcgjcaaa
/- Loads and stores of whole structs, as one step. -/
namespace Go.Proofs.Ytjckbdbjcgjcaaa
open Go.RowKit
/-- The next operation is a load of type ty: laid with `with_reducible refine at_load ty ?_`, it fails at all others, and changes nothing. -/
theorem at_load {P : Program} {ops : Array Oper} {rest : List Oper} {a : Act} {w : World} {Q : Exit → Act → World → Prop} {dst : Option Tmp} {p : Operand} {oty : TypeId} {pos : String} {af : Array Edge} {gd : Option (Nat × Bool)} (ty : TypeId)
    (h : wpList P ops Q ({ dst := dst, op := .load ty p, type := oty, pos := pos, after := af, guard := gd } :: rest) a w) :
    wpList P ops Q ({ dst := dst, op := .load ty p, type := oty, pos := pos, after := af, guard := gd } :: rest) a w := h
/-- A store of type ty. -/
theorem at_store {P : Program} {ops : Array Oper} {rest : List Oper} {a : Act} {w : World} {Q : Exit → Act → World → Prop} {dst : Option Tmp} {p x : Operand} {oty : TypeId} {pos : String} {af : Array Edge} {gd : Option (Nat × Bool)} (ty : TypeId)
    (h : wpList P ops Q ({ dst := dst, op := .store ty p x, type := oty, pos := pos, after := af, guard := gd } :: rest) a w) :
    wpList P ops Q ({ dst := dst, op := .store ty p x, type := oty, pos := pos, after := af, guard := gd } :: rest) a w := h
/-- A call of a builtin, b. -/
theorem at_call {P : Program} {ops : Array Oper} {rest : List Oper} {a : Act} {w : World} {Q : Exit → Act → World → Prop} {dst : Option Tmp} {xs : Array Operand} {ts : Array TypeId} {oty : TypeId} {pos : String} {af : Array Edge} {gd : Option (Nat × Bool)} (b : Builtin)
    (h : wpList P ops Q ({ dst := dst, op := .call { callee := .builtin b, args := xs, argTypes := ts }, type := oty, pos := pos, after := af, guard := gd } :: rest) a w) :
    wpList P ops Q ({ dst := dst, op := .call { callee := .builtin b, args := xs, argTypes := ts }, type := oty, pos := pos, after := af, guard := gd } :: rest) a w := h
section
variable {P : Program} {w : World}
theorem run_store_all {o : Oper} {a : Act} (ty : TypeId) (p x : Operand) (ho : o.op = .store ty p x) (i : TypeInfo) (n : Nat) (hi : P.info? ty = some i) (hn : i.size = n) {g off : Nat} {cs : Array Value} (hp : a.eval p = .pointer (some ⟨g, off, none⟩)) (hx : a.eval x = .agg cs) (hcs : cs.size = n)
    {cur : Array Value} {e : TypeId} (hh : w.heap[g]? = some (.cells cur e (0, 0))) (hfit : off + n ≤ cur.size) (h1 : ∀ v ∈ cs.toList, v.oneCell' = true) :
    (execOp a.eval o).run P w = .ok .skip (w.setRow g (cur.toList.take off ++ cs.toList ++ cur.toList.drop (off + n)).toArray) := by
  have hst := run_storeCells_at P g off e cs.toList 0 cur w hh (by simp [hcs]; omega) h1
  simp only [Nat.add_zero, Array.length_toList, hcs] at hst
  simp [execOp, ho, hp, hx, Instr.storeAt, storeVar, Go.sizeOf, typeInfo, hi, hn, hcs, Value.cells, Instr.sureAddr, hst]
theorem run_load_all {o : Oper} {a : Act} (ty : TypeId) (p : Operand) (ho : o.op = .load ty p) (i : TypeInfo) (n : Nat) (hi : P.info? ty = some i) (hn : i.size = n) (fs : Array Field) (hu : P.underlying ty = some (.struct fs)) {g off : Nat} {cs : Array Value} (hp : a.eval p = .pointer (some ⟨g, off, none⟩)) (hcs : cs.size = n)
    (hc : ∀ j, j < n → w.cell? ⟨g, off + j, none⟩ = cs[j]?) : (execOp a.eval o).run P w = .ok (.value (.agg cs)) w := by
  have hl := run_loadCells_list (P := P) w ⟨g, off, none⟩ cs.toList (fun j v hv => by
    have hj : j < n := by rw [← hcs]; have := (List.getElem?_eq_some_iff.1 hv).1; simpa using this
    have e : (⟨g, off, none⟩ : Addr).add j = ⟨g, off + j, none⟩ := by unfold Addr.add; split <;> simp_all
    rw [e, hc j hj]
    simpa using hv)
  simp only [Array.length_toList, hcs] at hl
  simp [execOp, ho, hp, Instr.loadAt, loadVar, Go.sizeOf, typeInfo, hi, hn, isAgg, Instr.sureAddr, hl, run_underlying hu]
theorem wpList_store_all {ops : Array Oper} {rest : List Oper} {a : Act} {Q : Exit → Act → World → Prop} {dst : Option Tmp} {ty oty : TypeId} {p x : Operand} {pos : String} {af : Array Edge} (i : TypeInfo) (n : Nat) (hi : P.info? ty = some i) (hn : i.size = n) {g off : Nat} {cs : Array Value}
    (hp : a.eval p = .pointer (some ⟨g, off, none⟩)) (hx : a.eval x = .agg cs) (hcs : cs.size = n) {cur : Array Value} {e : TypeId} (hh : w.heap[g]? = some (.cells cur e (0, 0))) (hfit : off + n ≤ cur.size) (h1 : ∀ v ∈ cs.toList, v.oneCell' = true)
    (h : wpList P ops Q rest (a.put dst undef) (w.setRow g (cur.toList.take off ++ cs.toList ++ cur.toList.drop (off + n)).toArray)) :
    wpList P ops Q ({ dst := dst, op := .store ty p x, type := oty, pos := pos, after := af, guard := none } :: rest) a w := by
  refine wpList_plain rfl fun K hK => ?_
  unfold Oper.wp
  rw [run_store_all ty p x rfl i n hi hn hp hx hcs hh hfit h1]
  exact hK _ _ h
theorem wpList_load_all {ops : Array Oper} {rest : List Oper} {a : Act} {Q : Exit → Act → World → Prop} {dst : Option Tmp} {ty oty : TypeId} {p : Operand} {pos : String} {af : Array Edge} (i : TypeInfo) (n : Nat) (hi : P.info? ty = some i) (hn : i.size = n) (fs : Array Field) (hu : P.underlying ty = some (.struct fs)) {g off : Nat} {cs : Array Value}
    (hp : a.eval p = .pointer (some ⟨g, off, none⟩)) (hcs : cs.size = n) (hc : ∀ j, j < n → w.cell? ⟨g, off + j, none⟩ = cs[j]?) (h : wpList P ops Q rest (a.put dst (.agg cs)) w) :
    wpList P ops Q ({ dst := dst, op := .load ty p, type := oty, pos := pos, after := af, guard := none } :: rest) a w := by
  refine wpList_plain rfl fun K hK => ?_
  unfold Oper.wp
  rw [run_load_all ty p rfl i n hi hn fs hu hp hcs hc]
  exact hK _ _ h
theorem results_cell_all {fn : Func} {p : Tmp} {ty : TypeId} (h : fn.results = #[.cell p ty]) (tmps : Array Value) (i : TypeInfo) (n : Nat) (hi : P.info? ty = some i) (hn : i.size = n) (fs : Array Field) (hu : P.underlying ty = some (.struct fs)) {g off : Nat} {cs : Array Value}
    (hp : tmps.getD p undef = .pointer (some ⟨g, off, none⟩)) (hcs : cs.size = n) (hc : ∀ j, j < n → w.cell? ⟨g, off + j, none⟩ = cs[j]?) : (results fn tmps).run P w = .ok (.agg cs) w := by
  have hl := run_loadCells_list (P := P) w ⟨g, off, none⟩ cs.toList (fun j v hv => by
    have hj : j < n := by rw [← hcs]; have := (List.getElem?_eq_some_iff.1 hv).1; simpa using this
    have e : (⟨g, off, none⟩ : Addr).add j = ⟨g, off + j, none⟩ := by unfold Addr.add; split <;> simp_all
    rw [e, hc j hj]
    simpa using hv)
  simp only [Array.length_toList, hcs] at hl
  simp only [results, h]
  rw [Array.getD_eq_getD_getElem?] at hp
  simp [Sem.run_bind, hp, loadVar, Go.sizeOf, typeInfo, hi, hn, isAgg, asAddr, hl, run_underlying hu]
/-- What a store of a whole row leaves. -/
theorem setRow_at {g : Nat} {cur : Array Value} {e : TypeId} (hh : w.heap[g]? = some (.cells cur e (0, 0))) (cs : Array Value) : (w.setRow g cs).heap[g]? = some (.cells cs e (0, 0)) := setRow_heap w g cur cs e _ hh
end
end Go.Proofs.Ytjckbdbjcgjcaaa
/- Clone, At, Rule; the extent of one box. -/
namespace Go.Proofs.Ytjckbdbjcgjcaaa
open Go.RowKit
theorem cell_of_heap {w w' : World} {b o : Nat} (h : w'.heap[b]? = w.heap[b]?) : w'.cell? ⟨b, o, none⟩ = w.cell? ⟨b, o, none⟩ := by simp [World.cell?, h]
theorem Ints.same {w w' : World} {lo hi : Nat} {A : Option Addr} {l : List Int} (h : Ints w lo hi A l) (hc : ∀ b o, lo ≤ b → b < hi → w'.cell? ⟨b, o, none⟩ = w.cell? ⟨b, o, none⟩) : Ints w' lo hi A l := fun h0 => by
  obtain ⟨b, off, rfl, hL, hB, hk⟩ := h h0
  exact ⟨b, off, rfl, hL, hB, fun k hk' => (hc b _ hL hB).trans (hk k hk')⟩
theorem infoI : (Try.prog.info? 3).map (fun i => (i.zero, i.size, i.bytes)) = some (some (.int .i64 0), 1, 8) := by kernel_rfl
def intV (l : List Int) : List Value := l.map (Value.int .i64)
theorem intV_at {l : List Int} {j : Nat} {u : Value} (h : (intV l)[j]? = some u) : j < l.length ∧ u = .int .i64 (lAt l j) := by
  unfold intV at h
  rw [List.getElem?_map] at h
  obtain ⟨x, hx, rfl⟩ := Option.map_eq_some_iff.1 h
  have hj := (List.getElem?_eq_some_iff.1 hx).1
  exact ⟨hj, by unfold lAt; simp [List.getD, hx]⟩
theorem intV_in {l : List Int} {j : Nat} (h : j < l.length) : (intV l)[j]? = some (.int .i64 (lAt l j)) := by
  unfold intV lAt
  simp [List.getD, h]
theorem ints_src {w : World} {lo hi : Nat} {A : Option Addr} {l : List Int} (h : Ints w lo hi A l) : 0 < l.length → ∃ b off, A = some ⟨b, off, none⟩ ∧ ∀ j u, (intV l)[j]? = some u → w.cell? ⟨b, off + j, none⟩ = some u := fun h0 => by
  obtain ⟨b, off, rfl, _, _, hc⟩ := h h0
  refine ⟨b, off, rfl, fun j u hu => ?_⟩
  obtain ⟨hj, rfl⟩ := intV_at hu
  exact hc j hj
theorem ints_copied {w : World} {g : Nat} {e : TypeId} {A : Option Addr} {l : List Int} (h : Copied g e (intV l) l.length A w) : Ints w g w.heap.size A l := fun h0 => by
  obtain ⟨b, cur, rfl, hg, hb, hc⟩ := h h0
  refine ⟨b, 0, rfl, hg, (Array.getElem?_eq_some_iff.1 hb).1, fun k hk => ?_⟩
  rw [Nat.zero_add]
  exact blk_cell hb k _ (hc k _ (intV_in hk))
set_option maxHeartbeats 1000000 in
theorem clone_any (A : Option Addr) (c : Nat) (l : List Int) (w : World) (hl : l.length ≤ 1000000) (hI : Ints w 0 w.heap.size A l) :
    Calls Try.prog 69 #[.slice A l.length c] w fun e w' => (∃ A' c', e = .returned (.slice A' l.length c') ∧ Ints w' w.heap.size w'.heap.size A' l ) ∧ Below w.heap.size w w' := by
  obtain ⟨i0, hi0, hz0, hz1, hz2⟩ := info_parts infoI
  have HI := Lib.hid hI
  have hE := fun W => Lib.run_eql_slice_nil (P := Try.prog) W 26 3 A l.length c 0 0 Try.underlying26
  clear hI
  cases A with
  | none =>
    have h1 : l.length = 0 := by
      rcases Nat.eq_zero_or_pos l.length with h | h
      · exact h
      · obtain ⟨_, _, e, _⟩ := HI.out h
        cases e
    have HL := Lib.hid h1
    rw [h1] at hE ⊢
    clear h1
    go_enter Try.func69, Try.ntmps69
    go_wp2
    go_ret
    exact ⟨⟨none, 0, rfl, fun h => absurd h (by have := HL.out; omega)⟩, Below.refl _ _⟩
  | some a =>
    go_enter Try.func69, Try.ntmps69
    go_wp2_with (at_builtin; refine wpList_append_copy rfl _ _ 26 3 rfl i0 _ 1 8 Try.underlying26 hi0 hz0 hz1 hz2 rfl (by decide) rfl rfl (heap_alloc_new _ _) (intV l) (by simp [intV]) (ints_src (HI.out.next (one_below _ _))) (fun u hu => by unfold intV at hu; obtain ⟨x, _, rfl⟩ := List.mem_map.1 hu; rfl) (by unfold maxLen; omega) (by omega) ?_; intro A2 c2 w2 hcp hb2; have HCP := Lib.hid hcp; have HB2 := Lib.hid hb2; clear hcp hb2)
    go_ret
    exact ⟨⟨A2, c2, rfl, ints_copied HCP.out⟩, (one_below _ _).trans HB2.out⟩
/-- A box at another place. -/
def Bx.at_ (t : Bx) (x y : Int) : Bx := .mk t.k t.nm t.sz t.w t.h t.d x y t.kids t.of_ t.src
abbrev zeroBox : Array Value := #[.int .i64 0, .string ⟨#[]⟩, .int .i64 0, .int .i64 0, .int .i64 0, .int .i64 0, .int .i64 0, .int .i64 0, .slice none 0 0, .int .i64 0, .slice none 0 0]
theorem two_boxes (w : World) (cs ds : Array Value) (t u : TypeId) : ((w.alloc (.cells cs t)).alloc (.cells ds u)).heap[w.heap.size]? = some (.cells cs t (0, 0)) ∧ ((w.alloc (.cells cs t)).alloc (.cells ds u)).heap[w.heap.size + 1]? = some (.cells ds u (0, 0)) ∧
    ((w.alloc (.cells cs t)).alloc (.cells ds u)).heap.size = w.heap.size + 2 ∧ Below w.heap.size w ((w.alloc (.cells cs t)).alloc (.cells ds u)) := by
  have := blk_new (w.alloc (.cells cs t)) (.cells ds u)
  rw [World.size_alloc] at this
  exact ⟨blk_more (blk_new _ _) _, this, by simp, two_below _ _ _⟩
theorem infoBox : (Try.prog.info? 28).map (fun i => (i.zero, i.size, i.bytes)) = some (some (.agg zeroBox), 11, 128) := by kernel_rfl
theorem bxA_one (t : Bx) (A : Option Addr) (c : Nat) (A' : Option Addr) (c' : Nat) : ∀ v ∈ (bxA t A c A' c').toList, v.oneCell' = true := by
  intro v hv
  simp at hv
  rcases hv with rfl | rfl | rfl | rfl | rfl | rfl | rfl | rfl | rfl | rfl | rfl <;> rfl
/-- A row of eleven cells that is stored whole. -/
theorem row_all (cs ds : Array Value) (h : ds.size = 11) (_h2 : cs.size = 11) : (ds.toList.take 0 ++ cs.toList ++ ds.toList.drop (0 + 11)).toArray = cs := by
  rw [List.drop_eq_nil_of_le (by simp; omega)]
  simp
end Go.Proofs.Ytjckbdbjcgjcaaa
/- A row of boxes as a list of boxes with the places of their lists. -/
namespace Go.Proofs.Ytjckbdbjcgjcaaa
open Go.RowKit
/-- A box, and where its kids and its numbers lie. -/
structure Q5 where
  t : Bx
  A : Option Addr
  c : Nat
  A' : Option Addr
  c' : Nat
def Q5.cells (q : Q5) : List Value := (bxA q.t q.A q.c q.A' q.c').toList
theorem Q5.len (q : Q5) : q.cells.length = 11 := rfl
theorem Q5.one (q : Q5) : ∀ v ∈ q.cells, v.oneCell' = true := bxA_one _ _ _ _ _
def rowC : List Q5 → List Value
  | [] => []
  | q :: qs => q.cells ++ rowC qs
theorem rowC_append : ∀ a b : List Q5, rowC (a ++ b) = rowC a ++ rowC b
  | [], b => rfl
  | q :: qs, b => by simp [rowC, rowC_append qs b]
theorem rowC_one (q : Q5) : rowC [q] = q.cells := by simp [rowC]
theorem rowC_len : ∀ Q : List Q5, (rowC Q).length = Q.length * 11
  | [] => rfl
  | q :: qs => by rw [rowC, List.length_append, Q5.len, rowC_len qs, List.length_cons]; omega
theorem rowC_at : ∀ (Q : List Q5) (i j : Nat) (q : Q5), Q[i]? = some q → j < 11 → (rowC Q)[i * 11 + j]? = q.cells[j]?
  | [], i, j, q, h, _ => by simp at h
  | p :: ps, 0, j, q, h, hj => by
    simp at h
    subst h
    rw [rowC, Nat.zero_mul, Nat.zero_add, List.getElem?_append_left (by rw [Q5.len]; exact hj)]
  | p :: ps, i + 1, j, q, h, hj => by
    rw [rowC, List.getElem?_append_right (by rw [Q5.len]; omega), Q5.len, show (i + 1) * 11 + j - 11 = i * 11 + j by omega]
    exact rowC_at ps i j q (by simpa using h) hj
theorem rowC_one_cell (Q : List Q5) : ∀ v ∈ rowC Q, v.oneCell' = true := by
  induction Q with
  | nil => intro v hv; cases hv
  | cons q qs ih =>
    intro v hv
    rw [rowC] at hv
    rcases List.mem_append.1 hv with h | h
    · exact q.one v h
    · exact ih v h
/-- The memory of a box lies from block lo to below hi. -/
def Lies (W : World) (lo hi : Nat) (q : Q5) : Prop := Kids W lo hi q.A q.t.kids ∧ Ints W lo hi q.A' q.t.src ∧ lens q.t
theorem Lies.mono {W : World} {lo hi lo' hi' : Nat} {q : Q5} (h : Lies W lo hi q) (hl : lo' ≤ lo) (hh : hi ≤ hi') : Lies W lo' hi' q := ⟨h.1.mono hl hh, h.2.1.mono hl hh, h.2.2⟩
theorem Kids.same {w w' : World} {lo hi : Nat} {A : Option Addr} {l : List Bx} (h : Kids w lo hi A l) (hc : ∀ b o, lo ≤ b → b < hi → w'.cell? ⟨b, o, none⟩ = w.cell? ⟨b, o, none⟩) : Kids w' lo hi A l := by
  induction h with
  | mk A l K K' C C' hA hS hN hK ih =>
    refine .mk A l K K' C C' (fun h0 => ?_) (fun i hi' => (hS i hi').same hc) hN ih
    obtain ⟨b, off, rfl, hL, hB, hcc⟩ := hA h0
    exact ⟨b, off, rfl, hL, hB, fun i hi' j hj => (hc b _ hL hB).trans (hcc i hi' j hj)⟩
theorem Lies.same {w w' : World} {lo hi : Nat} {q : Q5} (h : Lies w lo hi q) (hc : ∀ b o, lo ≤ b → b < hi → w'.cell? ⟨b, o, none⟩ = w.cell? ⟨b, o, none⟩) : Lies w' lo hi q := ⟨h.1.same hc, h.2.1.same hc, h.2.2⟩
def noQ : Q5 := ⟨default, none, 0, none, 0⟩
theorem kids_row {W : World} {lo hi g off : Nat} {Q : List Q5} (hc : ∀ k u, (rowC Q)[k]? = some u → W.cell? ⟨g, off + k, none⟩ = some u) (h1 : lo ≤ g) (h2 : g < hi) (hm : ∀ q ∈ Q, Lies W lo hi q) : Kids W lo hi (some ⟨g, off, none⟩) (Q.map Q5.t) := by
  have hat : ∀ i, i < (Q.map Q5.t).length → ∃ q, Q[i]? = some q ∧ kidAt (Q.map Q5.t) i = q.t ∧ q ∈ Q := fun i hi => by
    have hi' : i < Q.length := by simpa using hi
    refine ⟨Q[i], List.getElem?_eq_getElem hi', ?_, List.getElem_mem hi'⟩
    simp [kidAt, List.getD, hi']
  have hd : ∀ (i : Nat) (q : Q5), Q[i]? = some q → (Q[i]?).getD noQ = q := fun i q h => by rw [h]; rfl
  refine .mk _ _ (fun i => ((Q[i]?).getD noQ).A) (fun i => ((Q[i]?).getD noQ).A') (fun i => ((Q[i]?).getD noQ).c) (fun i => ((Q[i]?).getD noQ).c') (fun _ => ⟨g, off, rfl, h1, h2, fun i hi j hj => ?_⟩) (fun i hi => ?_) (fun i hi => ?_) (fun i hi => ?_)
  all_goals (obtain ⟨q, hq, ht, hmem⟩ := hat i hi; rw [ht])
  · rw [hd i q hq, Nat.add_assoc]
    have h3 := rowC_at Q i j q hq hj
    have h4 : q.cells[j]? = (bxA q.t q.A q.c q.A' q.c')[j]? := by unfold Q5.cells; rw [Array.getElem?_toList]
    have h5 : j < (bxA q.t q.A q.c q.A' q.c').size := hj
    rw [h4, Array.getElem?_eq_getElem h5] at h3
    rw [hc _ _ h3, Array.getElem?_eq_getElem h5]
  · rw [hd i q hq]; exact (hm q hmem).2.1
  · exact (hm q hmem).2.2
  · rw [hd i q hq]; exact (hm q hmem).1
/-- The row of boxes that lies at a place. -/
theorem row_kids {W : World} {lo hi : Nat} {A : Option Addr} {l : List Bx} (h : Kids W lo hi A l) : ∃ Q : List Q5, Q.map Q5.t = l ∧ (∀ q ∈ Q, Lies W lo hi q) ∧ (0 < l.length → ∃ b off, A = some ⟨b, off, none⟩ ∧ lo ≤ b ∧ b < hi ∧ ∀ i q, Q[i]? = some q → ∀ j, j < 11 → W.cell? ⟨b, off + i * 11 + j, none⟩ = q.cells[j]?) := by
  cases h with
  | mk _ _ K K' C C' hA hS hN hK =>
    have hat : ∀ i, (hi : i < l.length) → kidAt l i = l[i] := fun i hi => by simp [kidAt, List.getD, hi]
    refine ⟨(List.range l.length).map fun i => ⟨kidAt l i, K i, C i, K' i, C' i⟩, ?_, fun q hq => ?_, fun h0 => ?_⟩
    · rw [List.map_map]
      apply List.ext_getElem (by simp)
      intro i h1 h2
      simp [hat i h2]
    · obtain ⟨i, hi, rfl⟩ := List.mem_map.1 hq
      have hi := List.mem_range.1 hi
      exact ⟨hK i hi, hS i hi, hN i hi⟩
    · obtain ⟨b, off, rfl, h1, h2, h3⟩ := hA h0
      refine ⟨b, off, rfl, h1, h2, fun i q hq j hj => ?_⟩
      have hi := (List.getElem?_eq_some_iff.1 hq).1
      simp at hi
      rw [List.getElem?_map, List.getElem?_range hi] at hq
      simp at hq
      subst hq
      rw [h3 i hi j hj]
      unfold Q5.cells
      rw [Array.getElem?_toList]
end Go.Proofs.Ytjckbdbjcgjcaaa
/- A row of boxes that is copied. -/
namespace Go.Proofs.Ytjckbdbjcgjcaaa
open Go.RowKit
theorem rowC_of : ∀ (Q : List Q5) (k : Nat) (u : Value), (rowC Q)[k]? = some u → ∃ q, Q[k / 11]? = some q ∧ q.cells[k % 11]? = some u := fun Q k u h => by
  have hk := (List.getElem?_eq_some_iff.1 h).1
  rw [rowC_len] at hk
  have h1 : k / 11 < Q.length := by omega
  refine ⟨Q[k / 11], List.getElem?_eq_getElem h1, ?_⟩
  rw [← rowC_at Q (k / 11) (k % 11) _ (List.getElem?_eq_getElem h1) (by omega), show k / 11 * 11 + k % 11 = k by omega]
  exact h
/-- The cells of a row that came in, to be copied. -/
theorem row_src {W : World} {hi : Nat} {A : Option Addr} {l : List Bx} (h : Kids W 0 hi A l) : ∃ Q : List Q5, Q.map Q5.t = l ∧ (∀ q ∈ Q, Lies W 0 hi q) ∧ (rowC Q).length = l.length * 11 ∧ ∀ W', Below hi W W' → 0 < l.length → ∃ b off, A = some ⟨b, off, none⟩ ∧ ∀ j u, (rowC Q)[j]? = some u → W'.cell? ⟨b, off + j, none⟩ = some u := by
  obtain ⟨Q, h1, h2, h3⟩ := row_kids h
  refine ⟨Q, h1, h2, by rw [rowC_len, ← h1, List.length_map], fun W' hb h0 => ?_⟩
  obtain ⟨b, off, rfl, _, hb2, h4⟩ := h3 h0
  refine ⟨b, off, rfl, fun j u hu => ?_⟩
  obtain ⟨q, hq, hu2⟩ := rowC_of Q j u hu
  refine (hb.cell (p := ⟨b, off + j, none⟩) hb2).trans ?_
  rw [show off + j = off + j / 11 * 11 + j % 11 by omega, h4 _ q hq _ (by omega)]
  exact hu2
theorem Copied.keep {g n : Nat} {e : TypeId} {news : List Value} {A : Option Addr} {W W' : World} (h : Copied g e news n A W) (hk : ∀ b, g ≤ b → W'.heap[b]? = W.heap[b]?) : Copied g e news n A W' := fun h0 => by
  obtain ⟨b, cur, h1, h2, h3, h4⟩ := h h0
  exact ⟨b, cur, h1, h2, (hk b h2).trans h3, h4⟩
theorem Copied.lowkeep {g n : Nat} {e : TypeId} {news : List Value} {A : Option Addr} {W W' : World} (h : Copied g e news n A W) (hb : Below W.heap.size W W') : Copied g e news n A W' := fun h0 => by
  obtain ⟨b, cur, h1, h2, h3, h4⟩ := h h0
  exact ⟨b, cur, h1, h2, (hb.block b (Array.getElem?_eq_some_iff.1 h3).1).trans h3, h4⟩
/-- The row that has been copied. -/
theorem row_copied {W W' : World} {hi g : Nat} {A' : Option Addr} {l : List Bx} {Q : List Q5} {e : TypeId} (h1 : Q.map Q5.t = l) (h2 : ∀ q ∈ Q, Lies W 0 hi q) (hb : Below hi W W') (hhi : hi ≤ W'.heap.size) (hc : Copied g e (rowC Q) l.length A' W') : Kids W' 0 W'.heap.size A' l := by
  by_cases h0 : 0 < l.length
  · obtain ⟨b, cur, rfl, _, hh, hcc⟩ := hc h0
    rw [← h1]
    exact kids_row (fun k u hu => by rw [Nat.zero_add]; exact blk_cell hh k _ (hcc k u hu)) (Nat.zero_le _) (Array.getElem?_eq_some_iff.1 hh).1 fun q hq => ((h2 q hq).same fun b o _ hb2 => hb.cell (p := ⟨b, o, none⟩) hb2).mono (Nat.le_refl _) hhi
  · rw [List.eq_nil_of_length_eq_zero (by omega : l.length = 0)]
    exact Kids.nil _ _ _ _
end Go.Proofs.Ytjckbdbjcgjcaaa
/- Boxes whose rows of numbers are short enough to be copied. -/
namespace Go.Proofs.Ytjckbdbjcgjcaaa
/-- The longest row of numbers whose copy is made. -/
def fitN : Nat := 17592186044416
mutual
/-- No row of numbers in a box is longer. -/
def fitB : Bx → Prop
  | .mk _ _ _ _ _ _ _ _ kids _ src => src.length ≤ fitN ∧ fitL kids
def fitL : List Bx → Prop
  | [] => True
  | t :: ts => fitB t ∧ fitL ts
end
theorem fitB_eq (t : Bx) : fitB t ↔ t.src.length ≤ fitN ∧ fitL t.kids := by cases t; unfold fitB; exact Iff.rfl
theorem fitL_at : ∀ {l : List Bx}, fitL l → ∀ {i : Nat}, i < l.length → fitB (kidAt l i)
  | [], _, i, hi => absurd hi (by simp)
  | t :: ts, h, 0, _ => by unfold fitL at h; exact h.1
  | t :: ts, h, i + 1, hi => by
    unfold fitL at h
    have := fitL_at h.2 (i := i) (by simpa using hi)
    simpa [kidAt] using this
theorem fitL_of : ∀ {l : List Bx}, (∀ i, i < l.length → fitB (kidAt l i)) → fitL l
  | [], _ => by unfold fitL; trivial
  | t :: ts, h => by
    unfold fitL
    refine ⟨by simpa [kidAt] using h 0 (by simp), fitL_of fun i hi => ?_⟩
    have := h (i + 1) (by simpa using hi)
    simpa [kidAt] using this
end Go.Proofs.Ytjckbdbjcgjcaaa
