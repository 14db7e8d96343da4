/- Words for laws with a claim: two boxes; regions with calls that only make memory. -/
import Derived.Test.YtkamffjncndabaaCertPots
import Derived.Test.YtkamffjncndabaaCertRCheck
import Derived.Test.YtkamffjncndabaaLawCBest
namespace Go.Proofs.Ytkamffjncndabaa
open Go.RowKit
theorem kept5 {w W : World} {a0 a1 b0 b1 b2 : Value} {t u : TypeId} (hb : Below ((w.alloc (.cells #[a0, a1] t)).alloc (.cells #[b0, b1, b2] u)).heap.size ((w.alloc (.cells #[a0, a1] t)).alloc (.cells #[b0, b1, b2] u)) W) :
    (W.cell? ⟨w.heap.size, 0, none⟩ = some a0 ∧ W.cell? ⟨w.heap.size, 1, none⟩ = some a1) ∧ W.cell? ⟨w.heap.size + 1, 0, none⟩ = some b0 ∧ W.cell? ⟨w.heap.size + 1, 1, none⟩ = some b1 ∧ W.cell? ⟨w.heap.size + 1, 2, none⟩ = some b2 :=
  ⟨⟨(kept_two hb 0 _).1 rfl, (kept_two hb 1 _).1 rfl⟩, (kept_two hb 0 _).2 rfl, (kept_two hb 1 _).2 rfl, (kept_two hb 2 _).2 rfl⟩
theorem pots_eq {l : List Int} (A As An : Option Addr) (c n cs cn : Nat) (ps : List Pc) (nums : List Int) (wd ind : Int) (ch : Bool) (w : World) (hl : claimL ps wd ind nums ch = l) (hm : ps.length ≤ lenMax) (hn : nums.length ≤ 100) (hP : Pcs w w.heap.size A ps) (hN : Ints w w.heap.size An nums) :
    Calls Try.prog 14 #[.slice A ps.length c, .agg #[.int .i64 wd, .int .i64 ind], .agg #[.slice As n cs, .slice An nums.length cn, .bool ch]] w (PotsTo l w) := by
  subst hl; exact pots_any A As An c n cs cn ps nums wd ind ch w hm hn hP hN
/-- A region that draws its order, whose callees make memory and change nothing that was there. -/
theorem wp_region_bel {P : Program} {id : Nat} {Q : Exit → Act → World → Prop} {a : Act} {w : World} {l : List Oper} (hm : P.follows .mixedOrders = true) (hB : Region.lexB .any l.toArray = true)
    (h : wpQuiet P l.toArray (fun w' => ∃ v : Bel w.heap.size w, w' = v.v) (fun a' => ∀ w', (∃ v : Bel w.heap.size w, w' = v.v) → Q .normal a' w') l a) : (Code.region id l.toArray true).wp P Q a w :=
  wp_region_quiet (C := fun w' => ∃ v : Bel w.heap.size w, w' = v.v) hm hB ⟨⟨_, (Below.refl _ _).drew⟩, rfl⟩ (by simpa using h)
theorem soundpar_dec (ps : List Pc) (wd ind : Int) (l : List Int) : ∃ r : Bool, r = true ↔ parB ps wd ind = true ∧ SoundP ps wd ind l := by
  by_cases h : parB ps wd ind = true ∧ SoundP ps wd ind l
  · exact ⟨true, by simp [h]⟩
  · exact ⟨false, by simp [h]⟩
end Go.Proofs.Ytkamffjncndabaa
