/- Words for walks of this chapter: boxes, worlds, tails in memory. -/
import Derived.Test.YtkamffjncndabaaRefTotal
import Derived.Test.YtkamffjncndabaaAppOne
import Derived.Test.YtkamffjncndabaaBrkPlain
namespace Go.Proofs.Ytkamffjncndabaa
open Go.RowKit
theorem cell_made (w : World) (cs : Array Value) (t : TypeId) (i : Nat) : (w.alloc (.cells cs t)).cell? ⟨w.heap.size, i, none⟩ = cs[i]? := cell_of_row _ _ _ cs t (0, 0) (World.alloc_heap_new w _)
theorem kept_box {w W : World} {cs : Array Value} {t : TypeId} (hb : Below (w.alloc (.cells cs t)).heap.size (w.alloc (.cells cs t)) W) (k : Nat) (v : Value) (hk : cs[k]? = some v) : W.cell? ⟨w.heap.size, k, none⟩ = some v :=
  (hb.cell (p := ⟨w.heap.size, k, none⟩) (by simp)).trans ((cell_made w cs t k).trans hk)
theorem Line_at {n' e' : Int} (A : Option Addr) (c : Nat) (ps : List Pc) (i j wd : Int) (w : World) (hn : lineN ps i j wd = n') (he : lineE ps i j wd = e') (hm : ps.length ≤ lenMax) (hP : Pcs w w.heap.size A ps) :
    Calls Try.prog 39 #[.slice A ps.length c, .int .i64 i, .int .i64 j, .int .i64 wd] w fun e w' => e = .returned (.tuple #[.int .i64 n', .int .i64 e']) ∧ Below w.heap.size w w' := by
  rw [← hn, ← he]; exact Line_any A c ps i j wd w hm hP
theorem Line_in (A : Option Addr) (c : Nat) (ps : List Pc) (i j wd : Int) (w : World) (h0 : 0 ≤ i) (hi : i < j) (hj : j ≤ (ps.length : Int)) (h1 : 1 ≤ wd) (h2 : wd ≤ 10000000) (hv : validB ps = true) (hP : Pcs w w.heap.size A ps) {r : Bool} (hr : legV ps i.toNat j.toNat wd = r) :
    Calls Try.prog 39 #[.slice A ps.length c, .int .i64 i, .int .i64 j, .int .i64 wd] w fun e w' => e = .returned (.tuple #[.int .i64 (bif r then demV ps i.toNat j.toNat wd else 0), .int .i64 (bif r then 0 else 6)]) ∧ Below w.heap.size w w' := by
  have hm : ps.length ≤ lenMax := by have := (validB_iff.1 hv).1.2; unfold lenMax; omega
  have h := Line_any A c ps i j wd w hm hP
  rcases lineE_in hv h0 hi hj h1 h2 with ⟨hl, e1, e2⟩ | ⟨hl, e1, e2⟩
  · rw [e1, e2] at h
    rw [hl] at hr
    subst hr
    exact h
  · rw [e1, e2] at h
    rw [hl] at hr
    subst hr
    exact h
/-- The paragraph's valid and the demerits and the legality of its lines. -/
def parB (ps : List Pc) (w ind : Int) : Bool := validB ps && fitsB w ind
theorem parB_iff {ps : List Pc} {w ind : Int} : parB ps w ind = true ↔ validB ps = true ∧ fitsB w ind = true := by unfold parB; rw [Bool.and_eq_true]
theorem fitsB_iff {w ind : Int} : fitsB w ind = true ↔ 1 ≤ w ∧ w ≤ 10000000 ∧ 0 ≤ ind ∧ ind < w := by unfold fitsB; simp only [Bool.and_eq_true, decide_eq_true_eq]; omega
def cC (ps : List Pc) (w ind : Int) (i j : Nat) : Int := demV ps i j (widAt w ind i)
def gG (ps : List Pc) (w ind : Int) (i j : Nat) : Bool := legV ps i j (widAt w ind i)
theorem gG_one (ps : List Pc) (w ind : Int) (i : Nat) : gG ps w ind i (i + 1) = true := by unfold gG legV; rw [decide_eq_true rfl, Bool.or_true]
theorem blk_new (w : World) (o : Obj) : (w.alloc o).heap[w.heap.size]? = some o := World.alloc_heap_new w o
theorem blk_more {w : World} {b : Nat} {o : Obj} (h : w.heap[b]? = some o) (o' : Obj) : (w.alloc o').heap[b]? = some o := (Below.heap_alloc w o' b (Array.getElem?_eq_some_iff.1 h).1).trans h
theorem blk_cell {W : World} {b : Nat} {cs : Array Value} {t : TypeId} (h : W.heap[b]? = some (.cells cs t (0, 0))) (k : Nat) (v : Value) (hk : cs[k]? = some v) : W.cell? ⟨b, k, none⟩ = some v := (cell_of_row W b k cs t (0, 0) h).trans hk
theorem blk_free {W : World} {b : Nat} {cs : Array Value} {t : TypeId} (h : W.heap[b]? = some (.cells cs t (0, 0))) (k : Nat) : W.frozen? ⟨b, k, none⟩ = false := by simp [World.frozen?, h]
theorem blk_set {W : World} {b : Nat} {cs : Array Value} {t : TypeId} (h : W.heap[b]? = some (.cells cs t (0, 0))) (k : Nat) (v : Value) : (W.setCell ⟨b, k, none⟩ v).heap[b]? = some (.cells (cs.setIfInBounds k v) t (0, 0)) := by
  simp [World.setCell, Array.getElem?_modify, h]
theorem blk_far {W : World} {b : Nat} {o : Obj} (h : W.heap[b]? = some o) {p : Addr} (hp : b ≠ p.block) (v : Value) : (W.setCell p v).heap[b]? = some o := (Below.heap_setCell W p v b hp).trans h
theorem boxes3 (w : World) (a b c : Obj) : ((((w.alloc a).alloc b).alloc c).heap[w.heap.size]? = some a ∧ (((w.alloc a).alloc b).alloc c).heap[w.heap.size + 1]? = some b ∧ (((w.alloc a).alloc b).alloc c).heap[w.heap.size + 2]? = some c) ∧
    (((w.alloc a).alloc b).alloc c).heap.size = w.heap.size + 3 ∧ Below w.heap.size w (((w.alloc a).alloc b).alloc c) := by
  have h1 := blk_new (w.alloc a) b
  have h2 := blk_new ((w.alloc a).alloc b) c
  simp only [World.size_alloc] at h1 h2
  exact ⟨⟨blk_more (blk_more (blk_new w a) b) c, blk_more h1 c, h2⟩, by simp, (((Below.refl _ w).alloc (Nat.le_refl _) _).alloc (by simp) _).alloc (by simp; omega) _⟩
theorem boxes4 (w : World) (a b c d : Obj) : (((((w.alloc a).alloc b).alloc c).alloc d).heap[w.heap.size]? = some a ∧ ((((w.alloc a).alloc b).alloc c).alloc d).heap[w.heap.size + 1]? = some b ∧ ((((w.alloc a).alloc b).alloc c).alloc d).heap[w.heap.size + 2]? = some c ∧
    ((((w.alloc a).alloc b).alloc c).alloc d).heap[w.heap.size + 3]? = some d) ∧ ((((w.alloc a).alloc b).alloc c).alloc d).heap.size = w.heap.size + 4 ∧ Below w.heap.size w ((((w.alloc a).alloc b).alloc c).alloc d) := by
  obtain ⟨⟨h0, h1, h2⟩, h3, h4⟩ := boxes3 w a b c
  have h5 := blk_new (((w.alloc a).alloc b).alloc c) d
  rw [h3] at h5
  exact ⟨⟨blk_more h0 d, blk_more h1 d, blk_more h2 d, h5⟩, by simp, h4.alloc (by omega) _⟩
theorem inWide {P : Program} {F : Fence} {n : Nat} {f : FuncId} {args : Array Value} {w : World} {R : Ending → World → Prop} (hF : F = Fence.wide) (h : Calls P f args w R) : CallsIn F n P f args w R := by
  subst hF; exact callsIn_wide.2 h
theorem inWideRound {P : Program} {F : Fence} {n l : Nat} {f : FuncId} {args : Array Value} {w : World} {R : Ending → World → Prop} (hF : F = Fence.wide) (h : Calls P f args w R) : CallsIn (F.inRound l) n P f args w R := CallsIn.inRound l (inWide hF h)
theorem grown_new {w w' : World} (h : Below w.heap.size w w') : w.grownBy w' none := ⟨h.os, h.tape, h.output, h.size, fun k hk _ => h.block k hk⟩
/-- The value of a tail. -/
def tlV (t : Tl) : Value := .agg #[.bool t.th, .int .i64 t.dm, .int .i64 (t.en : Int)]
/-- The cells from A on, below block B, hold the tails T 0, .., T n. -/
def Tls (w : World) (B : Nat) (A : Option Addr) (n : Nat) (T : Nat → Tl) : Prop :=
  ∃ b off, A = some ⟨b, off, none⟩ ∧ b < B ∧ ∀ k, k ≤ n →
    w.cell? ⟨b, off + k * 3, none⟩ = some (.bool (T k).th) ∧ w.cell? ⟨b, off + k * 3 + 1, none⟩ = some (.int .i64 (T k).dm) ∧ w.cell? ⟨b, off + k * 3 + 2, none⟩ = some (.int .i64 ((T k).en : Int))
theorem Tls.below {w w' : World} {B n : Nat} {A : Option Addr} {T : Nat → Tl} (h : Tls w B A n T) (hb : Below B w w') : Tls w' B A n T := by
  obtain ⟨b, off, rfl, hB, hc⟩ := h
  exact ⟨b, off, rfl, hB, fun k hk => ⟨(hb.cell (p := ⟨b, _, none⟩) hB).trans (hc k hk).1, (hb.cell (p := ⟨b, _, none⟩) hB).trans (hc k hk).2.1, (hb.cell (p := ⟨b, _, none⟩) hB).trans (hc k hk).2.2⟩⟩
theorem Tls.mono {w : World} {B B' n : Nat} {A : Option Addr} {T : Nat → Tl} (h : Tls w B A n T) (hB : B ≤ B') : Tls w B' A n T := by
  obtain ⟨b, off, rfl, hb, hc⟩ := h
  exact ⟨b, off, rfl, by omega, hc⟩
theorem Tls.next {w w' : World} {A : Option Addr} {n : Nat} {T : Nat → Tl} (h : Tls w w.heap.size A n T) (hb : Below w.heap.size w w') : Tls w' w'.heap.size A n T := (h.below hb).mono hb.size
theorem tls_from {β : Type} {B n₀ n : Nat} {A : Option Addr} {T : Nat → Tl} (hB : n₀ ≤ B) : OwnFrom B (fun (_ : β) W => Tls W n₀ A n T) := fun _ W W' row h hg hr => by
  obtain ⟨b, off, rfl, hb, hc⟩ := h
  have hk : ∀ o, W'.cell? ⟨b, o, none⟩ = W.cell? ⟨b, o, none⟩ := fun o => by
    refine World.cell?_of_block (w := W) ?_
    by_cases hlt : b < W.heap.size
    · exact hg.block b hlt (fun e => by have := (hr b e.symm).1; omega)
    · have hn : W.heap[b]? = none := Array.getElem?_eq_none (by omega)
      have := (hc 0 (Nat.zero_le _)).1
      unfold World.cell? at this
      simp [hn] at this
  exact ⟨b, off, rfl, hb, fun k hkl => ⟨(hk _).trans (hc k hkl).1, (hk _).trans (hc k hkl).2.1, (hk _).trans (hc k hkl).2.2⟩⟩
end Go.Proofs.Ytkamffjncndabaa
