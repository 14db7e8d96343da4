/- The program's own. -/
import Derived.Test.YtlgnghehgcoccaaBoxOwnA
import Derived.Test.YtlgnghehgcoccaaBoxProper
namespace Go.Proofs.Ytlgnghehgcoccaa
open Go.RowKit
theorem run_num (t : Bx) (W : World) : ∀ k : Nat, k < 5 → (Instr.index 29 (.agg #[.int .i64 t.w, .int .i64 t.h, .int .i64 t.d, .int .i64 t.x, .int .i64 t.y]) (.int .i64 (k : Int))).run Try.prog W = .ok (.int .i64 (lAt (numL t) k)) W
  | 0, _ => by simp [Instr.index, run_underlying Try.underlying29, asIntOf, go_sem]; rfl
  | 1, _ => by simp [Instr.index, run_underlying Try.underlying29, asIntOf, go_sem]; rfl
  | 2, _ => by simp [Instr.index, run_underlying Try.underlying29, asIntOf, go_sem]; rfl
  | 3, _ => by simp [Instr.index, run_underlying Try.underlying29, asIntOf, go_sem]; rfl
  | 4, _ => by simp [Instr.index, run_underlying Try.underlying29, asIntOf, go_sem]; rfl
set_option maxRecDepth 100000 in
set_option maxHeartbeats 4000000 in
theorem bown_any {r : Bool} (t : Bx) (b o_ : Nat) (A : Option Addr) (c : Nat) (A' : Option Addr) (c' : Nat) (w : World) (hl : lens t) (hr : r = true ↔ ownOk t) (hb : b < w.heap.size) (hat : BoxAt w b o_ t A c A' c') (hI : Ints w 0 w.heap.size A' t.src) :
    Calls Try.prog 39 #[.pointer (some ⟨b, o_, none⟩)] w fun e w' => e = .returned (.bool r) ∧ Below w.heap.size w w' := by
  have HR := Lib.hid hr
  have HL := Lib.hid hl
  have HAT := Lib.hid hat
  have HI := Lib.hid hI
  obtain ⟨e0, e1, e2, e3, e4, e5, e6, e7, e8, e9, e10⟩ := hat.cells
  clear hr hl hat hI
  go_enter Try.func39, Try.ntmps39
  go_wp2_with fail
  go_quiet (fail)
  have HBW : Hid (Below w.heap.size w (w.drewN nq)) := below_drewN (Below.refl _ _) nq
  have HAW : Hid (BoxAt (w.drewN nq) b o_ t A c A' c') := HAT.out.below HBW.out hb
  have HIW : Hid (Ints (w.drewN nq) 0 (w.drewN nq).heap.size A' t.src) := HI.out.next HBW.out
  have hbw : b < (w.drewN nq).heap.size := hb
  clear e0 e1 e2 e3 e4 e5 e6 e7 e8 e9 e10 HAT HI
  generalize w.drewN nq = W0 at HBW HAW HIW hbw ⊢
  go_wp2_with fail
  go_loopw [26] (fun q wr => ∃ k : Nat, k ≤ 5 ∧ q = .int .i64 (k : Int) ∧ (∀ i, i < k → rngL (lAt (numL t) i)) ∧ wr = W0) (fun q _ => 5 - (intOf q).toNat)
  case atStart => exact ⟨0, Nat.zero_le _, rfl, fun i h => absurd h (Nat.not_lt_zero _), rfl⟩
  case round =>
    obtain ⟨k, hk, rfl, hall, rfl⟩ := hrel
    have HALL := Lib.hid hall
    clear hall
    by_cases hlt : k < 5
    · have d1 := run_num t wr k hlt
      obtain ⟨x, hx⟩ : ∃ x, lAt (numL t) k = x := ⟨_, rfl⟩
      rw [hx] at d1
      have HX := Lib.hid hx
      have HNO : Hid (¬ rngL x → ¬ ownOk t) := fun h hp => h (by have := hp.1 k hlt; rwa [hx] at this)
      clear hx
      by_cases h1 : x < -1073741824
      · have q1 : decide (x < -1073741824) = true := decide_eq_true h1
        go_wp2
        go_ret
        exact ⟨ret_bool (is_false HR.out (HNO.out (fun h => by have := h.1; omega))), HBW.out⟩
      · have q1 : decide (x < -1073741824) = false := decide_eq_false h1
        by_cases h2 : 1073741824 < x
        · have q2 : decide (1073741824 < x) = true := decide_eq_true h2
          go_wp2
          go_ret
          exact ⟨ret_bool (is_false HR.out (HNO.out (fun h => by have := h.2; omega))), HBW.out⟩
        · have q2 : decide (1073741824 < x) = false := decide_eq_false h2
          go_wp2
          go_roundw
          case rel => exact ⟨k + 1, by omega, by go_num, fun i hi => by rcases Nat.lt_succ_iff_lt_or_eq.1 hi with h | rfl; exact HALL.out i h; rw [HX.out]; exact ⟨by omega, by omega⟩, trivial⟩
          case measure => simp [intOf]; omega
    · obtain rfl : k = 5 := by omega
      have HNUM : Hid (numOk t) := HALL.out
      obtain ⟨e0, e1, e2, e3, e4, e5, e6, e7, e8, e9, e10⟩ := HAW.out.cells
      have HNO : Hid (¬ kindOk t → ¬ ownOk t) := fun h hp => h hp.2.1
      have HSR : Hid (kindOk t → (r = true ↔ srcOk t)) := fun h => HR.out.trans ⟨fun h => h.2.2, fun h2 => ⟨HNUM.out, h, h2⟩⟩
      obtain ⟨kk, hkk⟩ : ∃ kk, t.k = kk := ⟨_, rfl⟩
      obtain ⟨z, hz⟩ : ∃ z, t.sz = z := ⟨_, rfl⟩
      obtain ⟨n, hn⟩ : ∃ n, t.kids.length = n := ⟨_, rfl⟩
      have HKD : Hid (kindOk t ↔ (kk = 1 ∧ nameOk t.nm ∧ 1 ≤ z ∧ z ≤ 1000 ∧ n = 0) ∨ (kk = 2 ∧ t.nm.toList = [] ∧ z = 0 ∧ n = 0) ∨ (kk = 3 ∧ t.nm.toList = [] ∧ z = 0)) := by
        rw [← hkk, ← hz, ← hn]; exact Iff.rfl
      rw [hkk] at e0
      rw [hz] at e2
      rw [hn] at e8
      have HC2 : Hid (∀ X : World, Below wr.heap.size wr X → X.cell? ⟨b, o_ + 2, none⟩ = some (.int .i64 z) ∧ X.cell? ⟨b, o_ + 8, none⟩ = some (.slice A n c)) := fun X hX => ⟨(hX.cell (p := ⟨b, o_ + 2, none⟩) hbw).trans e2, (hX.cell (p := ⟨b, o_ + 8, none⟩) hbw).trans e8⟩
      clear hkk hz hn HALL hlt hk e3 e4 e5 e6 e7 e9 e10
      by_cases k1 : kk = 1
      · subst k1
        by_cases hrn : nameOk t.nm
        · have HRN := Lib.hid hrn
          clear hrn e2 e8
          go_wp2_with fail
          refine (bname_any (r := true) _ _ HL.out.1 (yes_iff HRN.out)).mono ?_
          rintro e wa ⟨rfl, hb1⟩
          obtain ⟨e2, e8⟩ := HC2.out wa hb1
          have HBA : Hid (Below w.heap.size w wa) := below_next HBW.out hb1
          have HAA : Hid (BoxAt wa b o_ t A c A' c') := HAW.out.below hb1 hbw
          have HIA : Hid (Ints wa 0 wa.heap.size A' t.src) := HIW.out.next hb1
          clear hb1
          by_cases z1 : 1 ≤ z
          · have q1 : decide (1 ≤ z) = true := decide_eq_true z1
            by_cases z2 : z ≤ 1000
            · have q2 : decide (z ≤ 1000) = true := decide_eq_true z2
              by_cases z3 : n = 0
              · have q3 : ((n : Int) == 0) = true := by rw [beq_iff_eq]; omega
                have HKO : Hid (kindOk t) := HKD.out.2 (.inl ⟨by first | rfl | trivial, HRN.out, z1, z2, z3⟩)
                have HZ := Lib.hid z3
                go_wp2_with fail
                refine (bsource_any (r := r) t _ _ _ _ _ _ _ HL.out.2.1 (HSR.out HKO.out) HAA.out HIA.out).mono ?_
                rintro e w1 ⟨rfl, hb1⟩
                go_wp2
                go_ret
                exact ⟨rfl, below_next HBA.out hb1⟩
              · have q3 : ((n : Int) == 0) = false := by rw [beq_eq_false_iff_ne]; omega
                go_wp2
                go_ret
                exact ⟨ret_bool (is_false HR.out (HNO.out (fun h => by have := HKD.out.1 h; omega))), HBA.out⟩
            · have q2 : decide (z ≤ 1000) = false := decide_eq_false z2
              go_wp2
              go_ret
              exact ⟨ret_bool (is_false HR.out (HNO.out (fun h => by have := HKD.out.1 h; omega))), HBA.out⟩
          · have q1 : decide (1 ≤ z) = false := decide_eq_false z1
            go_wp2
            go_ret
            exact ⟨ret_bool (is_false HR.out (HNO.out (fun h => by have := HKD.out.1 h; omega))), HBA.out⟩
        · have HRN := Lib.hid hrn
          clear hrn e2 e8
          go_wp2_with fail
          refine (bname_any (r := false) _ _ HL.out.1 (no_iff HRN.out)).mono ?_
          rintro e w1 ⟨rfl, hb1⟩
          go_wp2
          go_ret
          exact ⟨ret_bool (is_false HR.out (HNO.out (fun h => by
            rcases HKD.out.1 h with ⟨_, h2, _⟩ | ⟨h2, _⟩ | ⟨h2, _⟩
            · exact HRN.out h2
            · omega
            · omega))), below_next HBW.out hb1⟩
      · by_cases k2 : kk = 2
        · subst k2
          by_cases n1 : t.nm.toList = []
          · have HN1 := Lib.hid n1
            by_cases z1 : z = 0
            · have q2 : (z == 0) = true := by simp [z1]
              have HZ1 := Lib.hid z1
              by_cases z3 : n = 0
              · have q3 : ((n : Int) == 0) = true := by rw [beq_iff_eq]; omega
                have HKO : Hid (kindOk t) := HKD.out.2 (.inr (.inl ⟨by first | rfl | trivial, HN1.out, HZ1.out, z3⟩))
                go_wp2_with fail
                refine (bsource_any (r := r) t _ _ _ _ _ _ _ HL.out.2.1 (HSR.out HKO.out) HAW.out HIW.out).mono ?_
                rintro e w1 ⟨rfl, hb1⟩
                go_wp2
                go_ret
                exact ⟨rfl, below_next HBW.out hb1⟩
              · have q3 : ((n : Int) == 0) = false := by rw [beq_eq_false_iff_ne]; omega
                go_wp2
                go_ret
                exact ⟨ret_bool (is_false HR.out (HNO.out (fun h => by have := HKD.out.1 h; omega))), HBW.out⟩
            · have q2 : (z == 0) = false := by simp [z1]
              go_wp2
              go_ret
              exact ⟨ret_bool (is_false HR.out (HNO.out (fun h => by have := HKD.out.1 h; omega))), HBW.out⟩
          · have HN1 := Lib.hid n1
            go_wp2
            go_ret
            exact ⟨ret_bool (is_false HR.out (HNO.out (fun h => by
              rcases HKD.out.1 h with ⟨h2, _⟩ | ⟨_, h2, _⟩ | ⟨_, h2, _⟩
              · omega
              · exact HN1.out h2
              · exact HN1.out h2))), HBW.out⟩
        · by_cases k3 : kk = 3
          · subst k3
            by_cases n1 : t.nm.toList = []
            · have HN1 := Lib.hid n1
              by_cases z1 : z = 0
              · have q2 : (z == 0) = true := by simp [z1]
                have HZ1 := Lib.hid z1
                have HKO : Hid (kindOk t) := HKD.out.2 (.inr (.inr ⟨by first | rfl | trivial, HN1.out, HZ1.out⟩))
                go_wp2_with fail
                refine (bsource_any (r := r) t _ _ _ _ _ _ _ HL.out.2.1 (HSR.out HKO.out) HAW.out HIW.out).mono ?_
                rintro e w1 ⟨rfl, hb1⟩
                go_wp2
                go_ret
                exact ⟨rfl, below_next HBW.out hb1⟩
              · have q2 : (z == 0) = false := by simp [z1]
                go_wp2
                go_ret
                exact ⟨ret_bool (is_false HR.out (HNO.out (fun h => by have := HKD.out.1 h; omega))), HBW.out⟩
            · have HN1 := Lib.hid n1
              go_wp2
              go_ret
              exact ⟨ret_bool (is_false HR.out (HNO.out (fun h => by
                rcases HKD.out.1 h with ⟨h2, _⟩ | ⟨_, h2, _⟩ | ⟨_, h2, _⟩
                · omega
                · exact HN1.out h2
                · exact HN1.out h2))), HBW.out⟩
          · have q1 : (kk == 1) = false := by simp [k1]
            have q2 : (kk == 2) = false := by simp [k2]
            have q3 : (kk == 3) = false := by simp [k3]
            go_wp2
            go_ret
            exact ⟨ret_bool (is_false HR.out (HNO.out (fun h => by have := HKD.out.1 h; omega))), HBW.out⟩
end Go.Proofs.Ytlgnghehgcoccaa
