/- Plain words on glue, and on the memory in which it lies. -/
import Derived.Below
import Derived.Deep.Draws
import Derived.WalkKit
import Derived.Lib.Hide
namespace Go.Proofs.Ytjckbdbjcgjcaaa.Gu
open Go.RowKit
structure Gl where
  wd : Int
  st : Int
  sh : Int
  od : Int
def glZ : Gl := ⟨0, 0, 0, 0⟩
def wdAt (l : List Gl) (k : Nat) : Int := (l.getD k glZ).wd
def stAt (l : List Gl) (k : Nat) : Int := (l.getD k glZ).st
def shAt (l : List Gl) (k : Nat) : Int := (l.getD k glZ).sh
def odAt (l : List Gl) (k : Nat) : Int := (l.getD k glZ).od
def lAt (l : List Int) (k : Nat) : Int := l.getD k 0
def okG (l : List Gl) (k : Nat) : Prop :=
  -1048576 ≤ wdAt l k ∧ wdAt l k ≤ 1048576 ∧ 0 ≤ stAt l k ∧ stAt l k ≤ 1048576 ∧ 0 ≤ shAt l k ∧ shAt l k ≤ 1048576 ∧ 0 ≤ odAt l k ∧ odAt l k ≤ 3
instance (l : List Gl) (k : Nat) : Decidable (okG l k) := by unfold okG; infer_instance
/-- A list of glue is valid. -/
def VG (l : List Gl) : Prop := l.length ≤ 200 ∧ ∀ k, k < l.length → okG l k
theorem VG_dec (l : List Gl) : ∃ r : Bool, r = true ↔ VG l := by
  by_cases h : VG l
  · exact ⟨true, by simp [h]⟩
  · exact ⟨false, by simp [h]⟩
/-- All are as they have to be, or there is a first one that is not. -/
theorem first_bad {p : Nat → Prop} (hd : ∀ k, p k ∨ ¬ p k) : ∀ n, (∀ k, k < n → p k) ∨ ∃ m, m < n ∧ ¬ p m ∧ ∀ k, k < m → p k
  | 0 => .inl fun k h => absurd h (Nat.not_lt_zero _)
  | n + 1 => by
    rcases first_bad hd n with h | ⟨m, h1, h2, h3⟩
    · rcases hd n with h2 | h2
      · exact .inl fun k hk => by
          by_cases e : k = n
          · subst e; exact h2
          · exact h k (by omega)
      · exact .inr ⟨n, by omega, h2, h⟩
    · exact .inr ⟨m, by omega, h2, h3⟩
/-! ### Sums -/
/-- The sum of the first k. -/
def sumN (f : Nat → Int) : Nat → Int
  | 0 => 0
  | k + 1 => sumN f k + f k
theorem sumN_bound {f : Nat → Int} {M : Int} : ∀ k, (∀ j, j < k → -M ≤ f j ∧ f j ≤ M) → -(M * k) ≤ sumN f k ∧ sumN f k ≤ M * k
  | 0, _ => by simp [sumN]
  | k + 1, h => by
    have := sumN_bound k (fun j hj => h j (by omega))
    have := h k (by omega)
    have e : M * ((k + 1 : Nat) : Int) = M * (k : Int) + M := by rw [show ((k + 1 : Nat) : Int) = (k : Int) + 1 by omega, Int.mul_add, Int.mul_one]
    unfold sumN
    omega
theorem sumN_pos {f : Nat → Int} : ∀ k, (∀ j, j < k → 0 ≤ f j) → 0 ≤ sumN f k
  | 0, _ => Int.le_refl _
  | k + 1, h => by
    have := sumN_pos k (fun j hj => h j (by omega))
    have := h k (by omega)
    unfold sumN
    omega
theorem sumN_mono {f : Nat → Int} {n : Nat} (h : ∀ j, j < n → 0 ≤ f j) : ∀ d k, k + d ≤ n → sumN f k ≤ sumN f (k + d)
  | 0, k, _ => Int.le_refl _
  | d + 1, k, hk => by
    have := sumN_mono h d k (by omega)
    have := h (k + d) (by omega)
    show _ ≤ sumN f (k + d) + f (k + d)
    omega
theorem sumN_le {f : Nat → Int} {n k : Nat} (h : ∀ j, j < n → 0 ≤ f j) (hk : k ≤ n) : sumN f k ≤ sumN f n := by
  have := sumN_mono h (n - k) k (by omega)
  rw [show k + (n - k) = n by omega] at this
  exact this
theorem sumN_congr {f g : Nat → Int} : ∀ k, (∀ j, j < k → f j = g j) → sumN f k = sumN g k
  | 0, _ => rfl
  | k + 1, h => by
    unfold sumN
    rw [sumN_congr k (fun j hj => h j (by omega)), h k (by omega)]
theorem sumN_add (f g : Nat → Int) : ∀ k, sumN (fun j => f j + g j) k = sumN f k + sumN g k
  | 0 => rfl
  | k + 1 => by
    unfold sumN
    rw [sumN_add f g k]
    omega
theorem sumN_tele (f : Nat → Int) : ∀ k, sumN (fun j => f (j + 1) - f j) k = f k - f 0
  | 0 => by simp [sumN]
  | k + 1 => by
    unfold sumN
    rw [sumN_tele f k]
    omega
/-! ### Measures -/
/-- The stretch of an element, if it is of the order. -/
def stO (l : List Gl) (o : Int) (k : Nat) : Int := if odAt l k = o then stAt l k else 0
def natV (l : List Gl) : Int := sumN (wdAt l) l.length
def strV (l : List Gl) (o : Int) : Int := sumN (stO l o) l.length
def shrV (l : List Gl) : Int := sumN (shAt l) l.length
theorem nat_bound {l : List Gl} (h : VG l) {k : Nat} (hk : k ≤ l.length) : -209715200 ≤ sumN (wdAt l) k ∧ sumN (wdAt l) k ≤ 209715200 := by
  have := sumN_bound (f := wdAt l) (M := 1048576) k (fun j hj => by have := h.2 j (by omega); exact ⟨this.1, this.2.1⟩)
  have := h.1
  omega
theorem stO_range {l : List Gl} (h : VG l) (o : Int) {k : Nat} (hk : k < l.length) : 0 ≤ stO l o k ∧ stO l o k ≤ 1048576 := by
  have := h.2 k hk
  unfold okG at this
  unfold stO
  split <;> omega
theorem str_bound {l : List Gl} (h : VG l) (o : Int) {k : Nat} (hk : k ≤ l.length) : 0 ≤ sumN (stO l o) k ∧ sumN (stO l o) k ≤ 209715200 := by
  have h1 := sumN_bound (f := stO l o) (M := 1048576) k (fun j hj => by have := stO_range h o (k := j) (by omega); omega)
  have h2 := sumN_pos (f := stO l o) k (fun j hj => (stO_range h o (k := j) (by omega)).1)
  have := h.1
  omega
theorem shr_bound {l : List Gl} (h : VG l) {k : Nat} (hk : k ≤ l.length) : 0 ≤ sumN (shAt l) k ∧ sumN (shAt l) k ≤ 209715200 := by
  have h1 := sumN_bound (f := shAt l) (M := 1048576) k (fun j hj => by have := h.2 j (by omega); unfold okG at this; omega)
  have h2 := sumN_pos (f := shAt l) k (fun j hj => by have := h.2 j (by omega); unfold okG at this; omega)
  have := h.1
  omega
/-! ### Memory -/
def lenMax : Nat := 9223372036854775807
/-- The cells from A on, below block B, hold the glue l. -/
def Gls (w : World) (B : Nat) (A : Option Addr) (l : List Gl) : Prop :=
  0 < l.length → ∃ b off, A = some ⟨b, off, none⟩ ∧ b < B ∧ ∀ k, k < l.length →
    w.cell? ⟨b, off + k * 4, none⟩ = some (.int .i64 (wdAt l k)) ∧ w.cell? ⟨b, off + k * 4 + 1, none⟩ = some (.int .i64 (stAt l k)) ∧ w.cell? ⟨b, off + k * 4 + 2, none⟩ = some (.int .i64 (shAt l k)) ∧ w.cell? ⟨b, off + k * 4 + 3, none⟩ = some (.int .i64 (odAt l k))
theorem Gls.below {w w' : World} {B : Nat} {A : Option Addr} {l : List Gl} (h : Gls w B A l) (hb : Below B w w') : Gls w' B A l := fun h0 => by
  obtain ⟨b, off, rfl, hB, hc⟩ := h h0
  exact ⟨b, off, rfl, hB, fun k hk => ⟨(hb.cell (p := ⟨b, _, none⟩) hB).trans (hc k hk).1, (hb.cell (p := ⟨b, _, none⟩) hB).trans (hc k hk).2.1, (hb.cell (p := ⟨b, _, none⟩) hB).trans (hc k hk).2.2.1, (hb.cell (p := ⟨b, _, none⟩) hB).trans (hc k hk).2.2.2⟩⟩
theorem Gls.mono {w : World} {B B' : Nat} {A : Option Addr} {l : List Gl} (h : Gls w B A l) (hB : B ≤ B') : Gls w B' A l := fun h0 => by
  obtain ⟨b, off, rfl, hb, hc⟩ := h h0
  exact ⟨b, off, rfl, by omega, hc⟩
/-- The cells from A on, below block B, hold the numbers l. -/
def Ints (w : World) (B : Nat) (A : Option Addr) (l : List Int) : Prop :=
  0 < l.length → ∃ b off, A = some ⟨b, off, none⟩ ∧ b < B ∧ ∀ k, k < l.length → w.cell? ⟨b, off + k, none⟩ = some (.int .i64 (lAt l k))
theorem Ints.below {w w' : World} {B : Nat} {A : Option Addr} {l : List Int} (h : Ints w B A l) (hb : Below B w w') : Ints w' B A l := fun h0 => by
  obtain ⟨b, off, rfl, hB, hc⟩ := h h0
  exact ⟨b, off, rfl, hB, fun k hk => (hb.cell (p := ⟨b, _, none⟩) hB).trans (hc k hk)⟩
theorem Ints.mono {w : World} {B B' : Nat} {A : Option Addr} {l : List Int} (h : Ints w B A l) (hB : B ≤ B') : Ints w B' A l := fun h0 => by
  obtain ⟨b, off, rfl, hb, hc⟩ := h h0
  exact ⟨b, off, rfl, by omega, hc⟩
theorem Gls.next {w w' : World} {A : Option Addr} {l : List Gl} (h : Gls w w.heap.size A l) (hb : Below w.heap.size w w') : Gls w' w'.heap.size A l := (h.below hb).mono hb.size
theorem Ints.next {w w' : World} {A : Option Addr} {l : List Int} (h : Ints w w.heap.size A l) (hb : Below w.heap.size w w') : Ints w' w'.heap.size A l := (h.below hb).mono hb.size
theorem below_next {a w w' : World} (h : Below a.heap.size a w) (hb : Below w.heap.size w w') : Below a.heap.size a w' := h.trans (hb.mono h.size)
theorem below_drewN {B : Nat} {a w : World} (h : Below B a w) (n : Nat) : Below B a (w.drewN n) := by
  refine ⟨h.os, h.tape, h.output, h.size, h.block⟩
theorem ret_bool {a b : Bool} (h : a = b) : Ending.returned (.bool a) = .returned (.bool b) := by rw [h]
end Go.Proofs.Ytjckbdbjcgjcaaa.Gu
