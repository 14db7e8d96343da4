/- When a column of small boxes is valid: plain words. -/
import Derived.Test.YtonahgdchngabaaLawStk
namespace Go.Proofs.Ytonahgdchngabaa
open Go.RowKit
def smallB (t : Bx) : Prop := ((t.w ≤ 1048576 ∧ t.h ≤ 1048576 ∧ t.d ≤ 1048576 ∧ t.x ≤ 1048576 ∧ t.y ≤ 1048576) ∧ (-1048576 ≤ t.w ∧ -1048576 ≤ t.h ∧ -1048576 ≤ t.d ∧ -1048576 ≤ t.x ∧ -1048576 ≤ t.y)) ∧ validB t ∧ nestB t ≤ 90
def smallL (l : List Bx) : Prop := ∀ i, i < l.length → smallB (kidAt l i)
theorem min_if (a b : Int) : min a b = if b < a then b else a := by
  split <;> omega
theorem max5 {a b c d e m1 m2 m3 m4 : Int} (h1 : (if a < b then b else a) = m1) (h2 : (if m1 < c then c else m1) = m2) (h3 : (if m2 < d then d else m2) = m3) (h4 : (if m3 < e then e else m3) = m4) (K : Int) : m4 ≤ K ↔ a ≤ K ∧ b ≤ K ∧ c ≤ K ∧ d ≤ K ∧ e ≤ K := by
  rw [← max_if] at h1 h2 h3 h4
  omega
theorem min5 {a b c d e m1 m2 m3 m4 : Int} (h1 : (if b < a then b else a) = m1) (h2 : (if c < m1 then c else m1) = m2) (h3 : (if d < m2 then d else m2) = m3) (h4 : (if e < m3 then e else m3) = m4) (K : Int) : K ≤ m4 ↔ K ≤ a ∧ K ≤ b ∧ K ≤ c ∧ K ≤ d ∧ K ≤ e := by
  rw [← min_if] at h1 h2 h3 h4
  omega
/-- A plain load of this type comes up. -/
theorem at_load0 {P : Program} {ops : Array Oper} {rest : List Oper} {a : Act} {w : World} {Q : Exit → Act → World → Prop} {dst : Option Tmp} {p : Operand} {oty : TypeId} {pos : String} {af : Array Edge} (ty : TypeId)
    (h : wpList P ops Q ({ dst := dst, op := .load ty p, type := oty, pos := pos, after := af, guard := none } :: rest) a w) : wpList P ops Q ({ dst := dst, op := .load ty p, type := oty, pos := pos, after := af, guard := none } :: rest) a w := h
theorem run_max5 (P : Program) (ts : Array TypeId) (ty : TypeId) (a b c d e : Int) {m1 m2 m3 m4 : Int} (h1 : (if a < b then b else a) = m1) (h2 : (if m1 < c then c else m1) = m2) (h3 : (if m2 < d then d else m2) = m3) (h4 : (if m3 < e then e else m3) = m4) (W : World) :
    (Builtin.max_ ts ty #[.int .i64 a, .int .i64 b, .int .i64 c, .int .i64 d, .int .i64 e]).run P W = .ok (.int .i64 m4) W := by
  subst h1 h2 h3 h4
  simp [Builtin.max_, Builtin.max2, Sem.run_pure, List.foldlM]
theorem run_min5 (P : Program) (ts : Array TypeId) (ty : TypeId) (a b c d e : Int) {m1 m2 m3 m4 : Int} (h1 : (if b < a then b else a) = m1) (h2 : (if c < m1 then c else m1) = m2) (h3 : (if d < m2 then d else m2) = m3) (h4 : (if e < m3 then e else m3) = m4) (W : World) :
    (Builtin.min_ ts ty #[.int .i64 a, .int .i64 b, .int .i64 c, .int .i64 d, .int .i64 e]).run P W = .ok (.int .i64 m4) W := by
  subst h1 h2 h3 h4
  simp [Builtin.min_, Builtin.min2, Sem.run_pure, List.foldlM]
theorem nest_le {l : List Bx} {K : Nat} (h : ∀ i, i < l.length → nestB (kidAt l i) ≤ K) : nestL l ≤ K := by
  have hk : ∀ n, n ≤ l.length → nestL (l.take n) ≤ K := fun n => by
    induction n with
    | zero => intro _; simp [nestL_nil]
    | succ n ih =>
      intro hn
      rw [nest_take _ (by omega)]
      have := ih (by omega)
      have := h n (by omega)
      omega
  have := hk l.length (Nat.le_refl _)
  rwa [List.take_length] at this
theorem atY_nest (t : Bx) (y : Int) : nestB (t.atY y) = nestB t := by rw [nestB_eq, nestB_eq]; rfl
theorem movedY_nest (l : List Bx) (Y : Nat → Int) : nestL (movedY l Y) = nestL l := by
  have hk : ∀ n, n ≤ l.length → nestL ((movedY l Y).take n) = nestL (l.take n) := fun n => by
    induction n with
    | zero => intro _; simp
    | succ n ih =>
      intro hn
      rw [nest_take _ (by rw [movedY_len]; omega), nest_take _ (by omega), ih (by omega), movedY_at (by omega), atY_nest]
  have := hk l.length (Nat.le_refl _)
  rw [List.take_length, ← movedY_len l Y, List.take_length] at this
  exact this
theorem maxR_small {l : List Bx} {K : Int} (hK : 0 ≤ K) (h : ∀ i, i < l.length → (kidAt l i).x + (kidAt l i).w ≤ K) : ∀ n, n ≤ l.length → 0 ≤ maxR l n ∧ maxR l n ≤ K
  | 0, _ => ⟨Int.le_refl _, hK⟩
  | n + 1, hn => by
    have h1 := maxR_small hK h n (by omega)
    have h2 := h n (by omega)
    rw [maxR]
    omega
/-- Gaps as they come in as uint16. -/
def gapsU (l : List Bx) (g : List Int) : Prop := g.length = l.length ∧ ∀ k, k < g.length → 0 ≤ lAt g k ∧ lAt g k ≤ 65535
theorem down_small {l : List Bx} {g : List Int} (hs : smallL l) (hg : gapsU l g) : ∀ k, k < l.length → -2162687 * (k : Int) ≤ downI l g k ∧ downI l g k ≤ 2162687 * (k : Int)
  | 0, _ => by simp [downI]
  | k + 1, hk => by
    have h1 := down_small hs hg k (by omega)
    have h2 := (hs k (by omega)).1
    have h3 := (hs (k + 1) hk).1
    have h4 := hg.2 (k + 1) (by have := hg.1; omega)
    rw [downI]
    unfold distI
    omega
theorem colY_small {l : List Bx} {g : List Int} (hs : smallL l) (hg : gapsU l g) (hn : l.length ≤ 100) {b i : Nat} (hb : b < l.length) (hi : i < l.length) : -432537400 ≤ colY l g b i ∧ colY l g b i ≤ 432537400 := by
  have h1 := down_small hs hg b hb
  have h2 := down_small hs hg i hi
  unfold colY
  omega
theorem base_all {l : List Bx} {g : List Int} {b : Nat} (hs : smallL l) (hg : gapsU l g) (hn : l.length ≤ 100) (hc : cntL l ≤ 1000) (hb : b < l.length) : colE l g (b : Int) = 0 ∧ colR l g (b : Int) = colB l g b := by
  have hav : allV l := fun i hi => (hs i hi).2.1
  have hR := maxR_small (l := l) (K := 2097152) (by omega) (fun i hi => by have := (hs i hi).1; omega) l.length (Nat.le_refl _)
  have hy : ∀ i, i < l.length → -432537400 ≤ colY l g b i ∧ colY l g b i ≤ 432537400 := fun i hi => colY_small hs hg hn hb hi
  have hv : validB (colB l g b) := by
    refine ⟨(properB_eq _).2 ⟨⟨fun k hk => ?_, .inr (.inr ⟨rfl, nm_nil, rfl⟩), fun k hk => absurd hk (Nat.not_lt_zero _), .inl ⟨rfl, rfl⟩⟩, ?_⟩, ?_, ?_⟩
    · match k, hk with
      | 0, _ => show rngL (maxR l l.length); unfold rngL; omega
      | 1, _ =>
        have h1 := hy 0 (by omega)
        have h2 := (hs 0 (by omega)).1
        have h3 := hg.2 0 (by have := hg.1; omega)
        show rngL (colY l g b 0 + (kidAt l 0).h + lAt g 0)
        unfold rngL; omega
      | 2, _ =>
        have h1 := hy (l.length - 1) (by omega)
        have h2 := (hs (l.length - 1) (by omega)).1
        show rngL ((kidAt l (l.length - 1)).d - colY l g b (l.length - 1))
        unfold rngL; omega
      | 3, _ => show rngL 0; unfold rngL; omega
      | 4, _ => show rngL 0; unfold rngL; omega
    · show properL (movedY l (colY l g b))
      refine (properL_iff _).2 fun i hi => ?_
      rw [movedY_len] at hi
      rw [movedY_at hi]
      exact ((valid_atY (hav i hi)).2 (by have := hy i hi; unfold rngL; omega)).1
    · rw [cntB_eq]
      show 1 + cntL (movedY l (colY l g b)) ≤ _
      rw [movedY_cnt]
      omega
    · rw [nestB_eq]
      show nestL (movedY l (colY l g b)) + 1 ≤ _
      rw [movedY_nest]
      have := nest_le (l := l) (K := 90) fun i hi => (hs i hi).2.2
      omega
  have h := colE_0 (l := l) (g := g) (b := (b : Int)) hav ⟨hg.1, by omega, by omega⟩ (fun k hk => by have := hg.2 k hk; unfold rngL; omega) (by rw [Int.toNat_natCast]; exact hv)
  rw [Int.toNat_natCast] at h
  exact h
end Go.Proofs.Ytonahgdchngabaa
