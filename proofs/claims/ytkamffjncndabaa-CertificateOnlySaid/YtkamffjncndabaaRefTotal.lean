
/- The reference Total. -/
import Derived.Test.YtkamffjncndabaaRefStarts
namespace Go.Proofs.Ytkamffjncndabaa
open Go.RowKit
theorem lineE_in {ps : List Pc} {i j w : Int} (hv : validB ps = true) (h0 : 0 ≤ i) (hi : i < j) (hj : j ≤ (ps.length : Int)) (h1 : 1 ≤ w) (h2 : w ≤ 10000000) :
    (legV ps i.toNat j.toNat w = true ∧ lineE ps i j w = 0 ∧ lineN ps i j w = demV ps i.toNat j.toNat w) ∨ (legV ps i.toNat j.toNat w = false ∧ lineE ps i j w = 6 ∧ lineN ps i j w = 0) := by
  rcases lineE_cases ps i j w with ⟨h, _⟩ | ⟨_, ⟨h, _⟩ | ⟨_, _, ⟨h, _⟩ | ⟨_, _, _, h | h⟩⟩⟩
  · rw [hv] at h; cases h
  · omega
  · omega
  · exact .inr h
  · exact .inl h
theorem rLine_no (A : Option Addr) (c : Nat) (ps : List Pc) (i j wd : Int) (w : World) (hb : legV ps i.toNat j.toNat wd = false) (h0 : 0 ≤ i) (hi : i < j) (hj : j ≤ (ps.length : Int)) (h1 : 1 ≤ wd) (h2 : wd ≤ 10000000) (hv : validB ps = true) (hm : ps.length ≤ lenMax) (hP : Pcs w w.heap.size A ps) :
    Calls Try.prog 40 #[.slice A ps.length c, .int .i64 i, .int .i64 j, .int .i64 wd] w fun e w' => e = .returned (.tuple #[.int .i64 0, .int .i64 6]) ∧ Below w.heap.size w w' := by
  rcases lineE_in hv h0 hi hj h1 h2 with ⟨h, _⟩ | ⟨_, e1, e2⟩
  · rw [hb] at h; cases h
  · have := rLine_any A c ps i j wd w hm hP
    rw [e1, e2] at this
    exact this
theorem rLine_yes (A : Option Addr) (c : Nat) (ps : List Pc) (i j wd : Int) (w : World) (hb : legV ps i.toNat j.toNat wd = true) (h0 : 0 ≤ i) (hi : i < j) (hj : j ≤ (ps.length : Int)) (h1 : 1 ≤ wd) (h2 : wd ≤ 10000000) (hv : validB ps = true) (hm : ps.length ≤ lenMax) (hP : Pcs w w.heap.size A ps) :
    Calls Try.prog 40 #[.slice A ps.length c, .int .i64 i, .int .i64 j, .int .i64 wd] w fun e w' => e = .returned (.tuple #[.int .i64 (demV ps i.toNat j.toNat wd), .int .i64 0]) ∧ Below w.heap.size w w' := by
  rcases lineE_in hv h0 hi hj h1 h2 with ⟨_, e1, e2⟩ | ⟨h, _⟩
  · have := rLine_any A c ps i j wd w hm hP
    rw [e1, e2] at this
    exact this
  · rw [hb] at h; cases h

end Go.Proofs.Ytkamffjncndabaa
