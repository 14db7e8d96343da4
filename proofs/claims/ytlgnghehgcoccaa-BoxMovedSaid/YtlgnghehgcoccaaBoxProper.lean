/- The reference's proper and Valid. -/
import Derived.Test.YtlgnghehgcoccaaBoxName
import Derived.Test.YtlgnghehgcoccaaBoxCnt
namespace Go.Proofs.Ytlgnghehgcoccaa
open Go.RowKit
theorem num_cell (t : Bx) : ∀ k, k < 5 → (#[Value.int .i64 t.w, .int .i64 t.h, .int .i64 t.d, .int .i64 t.x, .int .i64 t.y] : Array Value)[k]? = some (.int .i64 (lAt (numL t) k))
  | 0, _ => rfl
  | 1, _ => rfl
  | 2, _ => rfl
  | 3, _ => rfl
  | 4, _ => rfl
set_option maxRecDepth 100000 in
set_option maxHeartbeats 4000000 in
theorem rproper_any : ∀ (n : Nat) (r : Bool) (t : Bx), cntB t ≤ n → n ≤ 1000000 → lens t → (r = true ↔ properB t) → ∀ (A : Option Addr) (c : Nat) (A' : Option Addr) (c' : Nat) (w : World), Kids w 0 w.heap.size A t.kids → Ints w 0 w.heap.size A' t.src →
    Calls Try.prog 31 #[.agg (bxA t A c A' c')] w fun e w' => e = .returned (.bool r) ∧ Below w.heap.size w w' := by
  intro n
  induction n with
  | zero => intro r t h; have := cntB_pos t; omega
  | succ n ih =>
    intro r t hn hn1 hl hr A c A' c' w hK hI
    have HPE : Hid (properB t ↔ ownOk t ∧ properL t.kids) := properB_eq t
    have HPL : Hid (properL t.kids ↔ ∀ i, i < t.kids.length → properB (kidAt t.kids i)) := properL_iff _
    have HR := Lib.hid hr
    have HL := Lib.hid hl
    have hc1 := cntB_eq t
    have hlen := cnt_len t.kids
    have HK : Hid (Kids (w.alloc (.cells (bxA t A c A' c') 25)) 0 w.heap.size A t.kids) := hK.low (one_below _ _)
    have HI : Hid (Ints (w.alloc (.cells (bxA t A c A' c') 25)) 0 w.heap.size A' t.src) := hI.below (one_below _ _)
    clear hK hI hr hl
    go_enter Try.func31, Try.ntmps31
    go_wp2_with fail
    have hb0 : Below w.heap.size w ((w.alloc (.cells (bxA t A c A' c') 25)).alloc (.cells #[.int .i64 t.w, .int .i64 t.h, .int .i64 t.d, .int .i64 t.x, .int .i64 t.y] 3)) := two_below _ _ _
    have hd0 : ((w.alloc (.cells (bxA t A c A' c') 25)).alloc (.cells #[.int .i64 t.w, .int .i64 t.h, .int .i64 t.d, .int .i64 t.x, .int .i64 t.y] 3)).heap[w.heap.size]? = some (.cells (bxA t A c A' c') 25 (0, 0)) := blk_more (blk_new _ _) _
    have hd1 : ((w.alloc (.cells (bxA t A c A' c') 25)).alloc (.cells #[.int .i64 t.w, .int .i64 t.h, .int .i64 t.d, .int .i64 t.x, .int .i64 t.y] 3)).heap[w.heap.size + 1]? = some (.cells #[.int .i64 t.w, .int .i64 t.h, .int .i64 t.d, .int .i64 t.x, .int .i64 t.y] 3 (0, 0)) := by
      have := blk_new (w.alloc (.cells (bxA t A c A' c') 25)) (.cells #[.int .i64 t.w, .int .i64 t.h, .int .i64 t.d, .int .i64 t.x, .int .i64 t.y] 3)
      rw [World.size_alloc] at this
      exact this
    have HK0 : Hid (Kids ((w.alloc (.cells (bxA t A c A' c') 25)).alloc (.cells #[.int .i64 t.w, .int .i64 t.h, .int .i64 t.d, .int .i64 t.x, .int .i64 t.y] 3)) 0 w.heap.size A t.kids) := HK.out.low ((one_below _ _).mono (by simp))
    have HI0 : Hid (Ints ((w.alloc (.cells (bxA t A c A' c') 25)).alloc (.cells #[.int .i64 t.w, .int .i64 t.h, .int .i64 t.d, .int .i64 t.x, .int .i64 t.y] 3)) 0 w.heap.size A' t.src) := HI.out.below ((one_below _ _).mono (by simp))
    clear HK HI
    generalize ((w.alloc (.cells (bxA t A c A' c') 25)).alloc (.cells #[.int .i64 t.w, .int .i64 t.h, .int .i64 t.d, .int .i64 t.x, .int .i64 t.y] 3)) = W0 at hb0 hd0 hd1 HK0 HI0 ⊢
    have HB0 := Lib.hid hb0
    have HD0 := Lib.hid hd0
    have HD1 := Lib.hid hd1
    have hs0 : w.heap.size < W0.heap.size := (Array.getElem?_eq_some_iff.1 hd0).1
    clear hb0 hd0 hd1
    go_loopw [4] (fun q wr => ∃ k : Nat, k ≤ 5 ∧ q = .int .i64 (k : Int) ∧ (∀ i, i < k → rngL (lAt (numL t) i)) ∧ wr = W0) (fun q _ => 5 - (intOf q).toNat)
    case atStart => exact ⟨0, Nat.zero_le _, rfl, fun i h => absurd h (Nat.not_lt_zero _), rfl⟩
    case round =>
      obtain ⟨k, hk, rfl, hall, rfl⟩ := hrel
      have HALL := Lib.hid hall
      clear hall
      by_cases hlt : k < 5
      · have d1 := blk_cell HD1.out k _ (num_cell t k hlt)
        obtain ⟨x, hx⟩ : ∃ x, lAt (numL t) k = x := ⟨_, rfl⟩
        rw [hx] at d1
        have HX := Lib.hid hx
        clear hx
        have HNO : Hid (¬ rngL x → ¬ properB t) := fun h hp => h (by have := (HPE.out.1 hp).1.1 k hlt; rwa [HX.out] at this)
        by_cases h1 : x < -1073741824
        · have q1 : decide (x < -1073741824) = true := decide_eq_true h1
          go_wp2
          go_ret
          exact ⟨ret_bool (is_false HR.out (HNO.out (fun h => by have := h.1; omega))), HB0.out⟩
        · have q1 : decide (x < -1073741824) = false := decide_eq_false h1
          by_cases h2 : 1073741824 < x
          · have q2 : decide (1073741824 < x) = true := decide_eq_true h2
            go_wp2
            go_ret
            exact ⟨ret_bool (is_false HR.out (HNO.out (fun h => by have := h.2; omega))), HB0.out⟩
          · have q2 : decide (1073741824 < x) = false := decide_eq_false h2
            go_wp2
            go_roundw
            case rel => exact ⟨k + 1, by omega, by go_num, fun i hi => by rcases Nat.lt_succ_iff_lt_or_eq.1 hi with h | rfl; exact HALL.out i h; rw [HX.out]; exact ⟨by omega, by omega⟩, trivial⟩
            case measure => simp [intOf]; omega
      · obtain rfl : k = 5 := by omega
        have HNUM : Hid (numOk t) := HALL.out
        have d0 : wr.cell? ⟨w.heap.size, 0, none⟩ = some (.int .i64 t.k) := blk_cell HD0.out 0 _ rfl
        have d1 : wr.cell? ⟨w.heap.size, 1, none⟩ = some (.string t.nm) := blk_cell HD0.out 1 _ rfl
        have d2 : wr.cell? ⟨w.heap.size, 2, none⟩ = some (.int .i64 t.sz) := blk_cell HD0.out 2 _ rfl
        have d8 : wr.cell? ⟨w.heap.size, 8, none⟩ = some (.slice A t.kids.length c) := blk_cell HD0.out 8 _ rfl
        have HNO : Hid (¬ kindOk t → ¬ properB t) := fun h hp => h (HPE.out.1 hp).1.2.1
        obtain ⟨kk, hkk⟩ : ∃ kk, t.k = kk := ⟨_, rfl⟩
        obtain ⟨z, hz⟩ : ∃ z, t.sz = z := ⟨_, rfl⟩
        have HKD : Hid (kindOk t ↔ (kk = 1 ∧ nameOk t.nm ∧ 1 ≤ z ∧ z ≤ 1000 ∧ t.kids.length = 0) ∨ (kk = 2 ∧ t.nm.toList = [] ∧ z = 0 ∧ t.kids.length = 0) ∨ (kk = 3 ∧ t.nm.toList = [] ∧ z = 0)) := by
          rw [← hkk, ← hz]; exact Iff.rfl
        have HKZ : Hid (t.k = kk ∧ t.sz = z) := ⟨hkk, hz⟩
        rw [hkk] at d0
        rw [hz] at d2
        clear hkk hz HALL hlt hk
        by_cases k1 : kk = 1
        · subst k1
          by_cases hrn : nameOk t.nm
          rotate_left
          · have HRN := Lib.hid hrn
            clear hrn
            go_wp2_with fail
            refine (rname_any (r := false) _ _ HL.out.1 (no_iff HRN.out)).mono ?_
            rintro e w1 ⟨rfl, hb1⟩
            go_wp2
            go_ret
            exact ⟨ret_bool (is_false HR.out (HNO.out (fun h => by
              rcases HKD.out.1 h with ⟨_, h2, _⟩ | ⟨h2, _⟩ | ⟨h2, _⟩
              · exact HRN.out h2
              · omega
              · omega))), below_next HB0.out hb1⟩
          · have HRN := Lib.hid hrn
            clear hrn
            go_wp2_with fail
            refine (rname_any (r := true) _ _ HL.out.1 (yes_iff HRN.out)).mono ?_
            rintro e wa ⟨rfl, hb1⟩
            have HDA := Lib.hid ((hb1.block _ hs0).trans HD0.out)
            have d2 := blk_cell HDA.out 2 (.int .i64 t.sz) rfl
            have d8 := blk_cell HDA.out 8 (.slice A t.kids.length c) rfl
            rw [HKZ.out.2] at d2
            have HBA : Hid (Below w.heap.size w wa) := below_next HB0.out hb1
            have HKA : Hid (Kids wa 0 w.heap.size A t.kids) := HK0.out.low (hb1.mono (by omega))
            have HIA : Hid (Ints wa 0 w.heap.size A' t.src) := HI0.out.below (hb1.mono (by omega))
            clear hb1
            by_cases z1 : z < 1
            · have q1 : decide (z < 1) = true := decide_eq_true z1
              go_wp2
              go_ret
              exact ⟨ret_bool (is_false HR.out (HNO.out (fun h => by have := HKD.out.1 h; omega))), HBA.out⟩
            · have q1 : decide (z < 1) = false := decide_eq_false z1
              by_cases z2 : 1000 < z
              · have q2 : decide (1000 < z) = true := decide_eq_true z2
                go_wp2
                go_ret
                exact ⟨ret_bool (is_false HR.out (HNO.out (fun h => by have := HKD.out.1 h; omega))), HBA.out⟩
              · have q2 : decide (1000 < z) = false := decide_eq_false z2
                by_cases z3 : 0 < t.kids.length
                · have q3 : decide (0 < (t.kids.length : Int)) = true := decide_eq_true (by omega)
                  go_wp2
                  go_ret
                  exact ⟨ret_bool (is_false HR.out (HNO.out (fun h => by have := HKD.out.1 h; omega))), HBA.out⟩
                · have q3 : decide (0 < (t.kids.length : Int)) = false := decide_eq_false (by omega)
                  have HKO : Hid (kindOk t) := HKD.out.2 (.inl ⟨by first | rfl | trivial, HRN.out, by omega, by omega, by omega⟩)
                  go_wp2_with fail
                  have HOWN : Hid (∀ r : Bool, (r = true ↔ properB t) → (∀ i, i < t.kids.length → properB (kidAt t.kids i)) → (r = true ↔ srcOk t)) := fun r h hk => h.trans ⟨fun h => (HPE.out.1 h).1.2.2, fun h => HPE.out.2 ⟨⟨HNUM.out, HKO.out, h⟩, HPL.out.2 hk⟩⟩
                  have HNK : Hid (∀ i, i < t.kids.length → ¬ properB (kidAt t.kids i) → ¬ properB t) := fun i hi h hp => h (HPL.out.1 (HPE.out.1 hp).2 i hi)
                  have hsa : w.heap.size < wa.heap.size := (Array.getElem?_eq_some_iff.1 HDA.out).1
                  go_loopw [5] (fun q wx => ∃ k : Nat, k ≤ t.kids.length ∧ q = .int .i64 (k : Int) ∧ (∀ i, i < k → properB (kidAt t.kids i)) ∧ Below wa.heap.size wa wx) (fun q _ => t.kids.length - (intOf q).toNat)
                  case atStart => exact ⟨0, Nat.zero_le _, rfl, fun i h => absurd h (Nat.not_lt_zero _), Below.refl _ _⟩
                  case round =>
                    obtain ⟨k, hk, rfl, hall, hbw⟩ := hrel
                    have HALL := Lib.hid hall
                    have HBW := Lib.hid hbw
                    have HDB := Lib.hid ((hbw.block _ hsa).trans HDA.out)
                    clear hall hbw
                    by_cases hlt : k < t.kids.length
                    · exact absurd hlt (by omega)
                    · obtain rfl : k = t.kids.length := by omega
                      have b0 := blk_cell HDB.out 0 (.int .i64 t.k) rfl
                      have b1 := blk_cell HDB.out 1 (.string t.nm) rfl
                      have b2 := blk_cell HDB.out 2 (.int .i64 t.sz) rfl
                      have b3 := blk_cell HDB.out 3 (.int .i64 t.w) rfl
                      have b4 := blk_cell HDB.out 4 (.int .i64 t.h) rfl
                      have b5 := blk_cell HDB.out 5 (.int .i64 t.d) rfl
                      have b6 := blk_cell HDB.out 6 (.int .i64 t.x) rfl
                      have b7 := blk_cell HDB.out 7 (.int .i64 t.y) rfl
                      have b8 := blk_cell HDB.out 8 (.slice A t.kids.length c) rfl
                      have b9 := blk_cell HDB.out 9 (.int .i64 t.of_) rfl
                      have b10 := blk_cell HDB.out 10 (.slice A' t.src.length c') rfl
                      have HI1 : Hid (Ints wr 0 wr.heap.size A' t.src) := by
                        show Ints _ _ _ _ _
                        exact (HIA.out.below (HBW.out.mono (by omega))).mono (Nat.le_refl _) (by have := HBW.out.size; omega)
                      go_wp2_with fail
                      refine (rsource_any (r := r) t _ _ _ _ _ HL.out.2.1 (HOWN.out r HR.out HALL.out) HI1.out).mono ?_
                      rintro e w1 ⟨rfl, hb1⟩
                      go_wp2
                      go_ret
                      exact ⟨rfl, below_next (below_next HBA.out HBW.out) hb1⟩
        · by_cases k2 : kk = 2
          · subst k2
            by_cases n1 : t.nm.toList = []
            · have HN1 := Lib.hid n1
              by_cases z1 : z = 0
              · have q2 : (z != 0) = false := by simp [z1]
                have HZ1 := Lib.hid z1
                clear z1
                by_cases z3 : 0 < t.kids.length
                · have q3 : decide (0 < (t.kids.length : Int)) = true := decide_eq_true (by omega)
                  go_wp2
                  go_ret
                  exact ⟨ret_bool (is_false HR.out (HNO.out (fun h => by have := HKD.out.1 h; omega))), HB0.out⟩
                · have q3 : decide (0 < (t.kids.length : Int)) = false := decide_eq_false (by omega)
                  have HKO : Hid (kindOk t) := HKD.out.2 (.inr (.inl ⟨by first | rfl | trivial, HN1.out, HZ1.out, by omega⟩))
                  obtain ⟨wa, hwa⟩ : ∃ wa, wa = wr := ⟨_, rfl⟩
                  have HDA : Hid (wa.heap[w.heap.size]? = some (.cells (bxA t A c A' c') 25 (0, 0))) := by rw [hwa]; exact HD0.out
                  have HBA : Hid (Below w.heap.size w wa) := by rw [hwa]; exact HB0.out
                  have HKA : Hid (Kids wa 0 w.heap.size A t.kids) := by rw [hwa]; exact HK0.out
                  have HIA : Hid (Ints wa 0 w.heap.size A' t.src) := by rw [hwa]; exact HI0.out
                  rw [← hwa] at d0 d1 d2 d8 ⊢
                  clear hwa
                  go_wp2_with fail
                  have HOWN : Hid (∀ r : Bool, (r = true ↔ properB t) → (∀ i, i < t.kids.length → properB (kidAt t.kids i)) → (r = true ↔ srcOk t)) := fun r h hk => h.trans ⟨fun h => (HPE.out.1 h).1.2.2, fun h => HPE.out.2 ⟨⟨HNUM.out, HKO.out, h⟩, HPL.out.2 hk⟩⟩
                  have HNK : Hid (∀ i, i < t.kids.length → ¬ properB (kidAt t.kids i) → ¬ properB t) := fun i hi h hp => h (HPL.out.1 (HPE.out.1 hp).2 i hi)
                  have hsa : w.heap.size < wa.heap.size := (Array.getElem?_eq_some_iff.1 HDA.out).1
                  go_loopw [5] (fun q wx => ∃ k : Nat, k ≤ t.kids.length ∧ q = .int .i64 (k : Int) ∧ (∀ i, i < k → properB (kidAt t.kids i)) ∧ Below wa.heap.size wa wx) (fun q _ => t.kids.length - (intOf q).toNat)
                  case atStart => exact ⟨0, Nat.zero_le _, rfl, fun i h => absurd h (Nat.not_lt_zero _), Below.refl _ _⟩
                  case round =>
                    obtain ⟨k, hk, rfl, hall, hbw⟩ := hrel
                    have HALL := Lib.hid hall
                    have HBW := Lib.hid hbw
                    have HDB := Lib.hid ((hbw.block _ hsa).trans HDA.out)
                    clear hall hbw
                    by_cases hlt : k < t.kids.length
                    · exact absurd hlt (by omega)
                    · obtain rfl : k = t.kids.length := by omega
                      have b0 := blk_cell HDB.out 0 (.int .i64 t.k) rfl
                      have b1 := blk_cell HDB.out 1 (.string t.nm) rfl
                      have b2 := blk_cell HDB.out 2 (.int .i64 t.sz) rfl
                      have b3 := blk_cell HDB.out 3 (.int .i64 t.w) rfl
                      have b4 := blk_cell HDB.out 4 (.int .i64 t.h) rfl
                      have b5 := blk_cell HDB.out 5 (.int .i64 t.d) rfl
                      have b6 := blk_cell HDB.out 6 (.int .i64 t.x) rfl
                      have b7 := blk_cell HDB.out 7 (.int .i64 t.y) rfl
                      have b8 := blk_cell HDB.out 8 (.slice A t.kids.length c) rfl
                      have b9 := blk_cell HDB.out 9 (.int .i64 t.of_) rfl
                      have b10 := blk_cell HDB.out 10 (.slice A' t.src.length c') rfl
                      have HI1 : Hid (Ints wr 0 wr.heap.size A' t.src) := by
                        show Ints _ _ _ _ _
                        exact (HIA.out.below (HBW.out.mono (by omega))).mono (Nat.le_refl _) (by have := HBW.out.size; omega)
                      go_wp2_with fail
                      refine (rsource_any (r := r) t _ _ _ _ _ HL.out.2.1 (HOWN.out r HR.out HALL.out) HI1.out).mono ?_
                      rintro e w1 ⟨rfl, hb1⟩
                      go_wp2
                      go_ret
                      exact ⟨rfl, below_next (below_next HBA.out HBW.out) hb1⟩
              · have q2 : (z != 0) = true := by simp [z1]
                go_wp2
                go_ret
                exact ⟨ret_bool (is_false HR.out (HNO.out (fun h => by have := HKD.out.1 h; omega))), HB0.out⟩
            · have HN1 := Lib.hid n1
              go_wp2
              go_ret
              exact ⟨ret_bool (is_false HR.out (HNO.out (fun h => by
                rcases HKD.out.1 h with ⟨h2, _⟩ | ⟨_, h2, _⟩ | ⟨_, h2, _⟩
                · omega
                · exact HN1.out h2
                · exact HN1.out h2))), HB0.out⟩
          · by_cases k3 : kk = 3
            · subst k3
              by_cases n1 : t.nm.toList = []
              · have HN1 := Lib.hid n1
                by_cases z1 : z = 0
                · have q2 : (z != 0) = false := by simp [z1]
                  have HZ1 := Lib.hid z1
                  clear z1
                  have HKO : Hid (kindOk t) := HKD.out.2 (.inr (.inr ⟨by first | rfl | trivial, HN1.out, HZ1.out⟩))
                  obtain ⟨wa, hwa⟩ : ∃ wa, wa = wr := ⟨_, rfl⟩
                  have HDA : Hid (wa.heap[w.heap.size]? = some (.cells (bxA t A c A' c') 25 (0, 0))) := by rw [hwa]; exact HD0.out
                  have HBA : Hid (Below w.heap.size w wa) := by rw [hwa]; exact HB0.out
                  have HKA : Hid (Kids wa 0 w.heap.size A t.kids) := by rw [hwa]; exact HK0.out
                  have HIA : Hid (Ints wa 0 w.heap.size A' t.src) := by rw [hwa]; exact HI0.out
                  rw [← hwa] at d0 d1 d2 d8 ⊢
                  clear hwa
                  go_wp2_with fail
                  have HOWN : Hid (∀ r : Bool, (r = true ↔ properB t) → (∀ i, i < t.kids.length → properB (kidAt t.kids i)) → (r = true ↔ srcOk t)) := fun r h hk => h.trans ⟨fun h => (HPE.out.1 h).1.2.2, fun h => HPE.out.2 ⟨⟨HNUM.out, HKO.out, h⟩, HPL.out.2 hk⟩⟩
                  have HNK : Hid (∀ i, i < t.kids.length → ¬ properB (kidAt t.kids i) → ¬ properB t) := fun i hi h hp => h (HPL.out.1 (HPE.out.1 hp).2 i hi)
                  have hsa : w.heap.size < wa.heap.size := (Array.getElem?_eq_some_iff.1 HDA.out).1
                  go_loopw [5] (fun q wx => ∃ k : Nat, k ≤ t.kids.length ∧ q = .int .i64 (k : Int) ∧ (∀ i, i < k → properB (kidAt t.kids i)) ∧ Below wa.heap.size wa wx) (fun q _ => t.kids.length - (intOf q).toNat)
                  case atStart => exact ⟨0, Nat.zero_le _, rfl, fun i h => absurd h (Nat.not_lt_zero _), Below.refl _ _⟩
                  case round =>
                    obtain ⟨k, hk, rfl, hall, hbw⟩ := hrel
                    have HALL := Lib.hid hall
                    have HBW := Lib.hid hbw
                    have HDB := Lib.hid ((hbw.block _ hsa).trans HDA.out)
                    clear hall hbw
                    by_cases hlt : k < t.kids.length
                    · have d8 := blk_cell HDB.out 8 (.slice A t.kids.length c) rfl
                      obtain ⟨b, off, A1, c1, A2, c2, rfl, _, hb, hat, hk1, hi1, hl1⟩ := HKA.out.at hlt
                      obtain ⟨e0, e1, e2, e3, e4, e5, e6, e7, e8, e9, e10⟩ := (hat.below HBW.out (show b < wa.heap.size by omega)).cells
                      have hck := cnt_kid t.kids hlt
                      obtain ⟨u, hu⟩ : ∃ u, kidAt t.kids k = u := ⟨_, rfl⟩
                      rw [hu] at e0 e1 e2 e3 e4 e5 e6 e7 e8 e9 e10 hck hk1 hi1 hl1
                      have HU := Lib.hid hu
                      have HK1 : Hid (Kids wr 0 wr.heap.size A1 u.kids) := by
                        show Kids _ _ _ _ _
                        exact (hk1.low (HBW.out.mono (by omega))).mono (Nat.le_refl _) (by have := HBW.out.size; omega)
                      have HI1 : Hid (Ints wr 0 wr.heap.size A2 u.src) := by
                        show Ints _ _ _ _ _
                        exact (hi1.below (HBW.out.mono (by omega))).mono (Nat.le_refl _) (by have := HBW.out.size; omega)
                      have HL1 := Lib.hid hl1
                      have hub : cntB u ≤ n := by omega
                      clear hat hk1 hi1 hl1 hu
                      by_cases hru : properB u
                      rotate_left
                      · have HRU := Lib.hid hru
                        have IH := fun X hX hY => ih false u hub (by omega) HL1.out (no_iff HRU.out) A1 c1 A2 c2 X hX hY
                        clear hru
                        go_wp2_with fail
                        refine (IH _ HK1.out HI1.out).mono ?_
                        rintro e w1 ⟨rfl, hb1⟩
                        go_wp2
                        go_ret
                        exact ⟨ret_bool (is_false HR.out (HNK.out k hlt (by rw [HU.out]; exact HRU.out))), below_next (below_next HBA.out HBW.out) hb1⟩
                      · have HRU := Lib.hid hru
                        have IH := fun X hX hY => ih true u hub (by omega) HL1.out (yes_iff HRU.out) A1 c1 A2 c2 X hX hY
                        clear hru
                        go_wp2_with fail
                        refine (IH _ HK1.out HI1.out).mono ?_
                        rintro e w1 ⟨rfl, hb1⟩
                        have HB1 := Lib.hid (below_next HBW.out hb1)
                        clear hb1 IH
                        go_wp2_with fail
                        go_roundw
                        case rel => exact ⟨k + 1, by omega, by go_num, fun i hi => by rcases Nat.lt_succ_iff_lt_or_eq.1 hi with h | rfl; exact HALL.out i h; rw [HU.out]; exact HRU.out, HB1.out⟩
                        case measure => simp [intOf]; omega
                    · obtain rfl : k = t.kids.length := by omega
                      have b0 := blk_cell HDB.out 0 (.int .i64 t.k) rfl
                      have b1 := blk_cell HDB.out 1 (.string t.nm) rfl
                      have b2 := blk_cell HDB.out 2 (.int .i64 t.sz) rfl
                      have b3 := blk_cell HDB.out 3 (.int .i64 t.w) rfl
                      have b4 := blk_cell HDB.out 4 (.int .i64 t.h) rfl
                      have b5 := blk_cell HDB.out 5 (.int .i64 t.d) rfl
                      have b6 := blk_cell HDB.out 6 (.int .i64 t.x) rfl
                      have b7 := blk_cell HDB.out 7 (.int .i64 t.y) rfl
                      have b8 := blk_cell HDB.out 8 (.slice A t.kids.length c) rfl
                      have b9 := blk_cell HDB.out 9 (.int .i64 t.of_) rfl
                      have b10 := blk_cell HDB.out 10 (.slice A' t.src.length c') rfl
                      have HI1 : Hid (Ints wr 0 wr.heap.size A' t.src) := by
                        show Ints _ _ _ _ _
                        exact (HIA.out.below (HBW.out.mono (by omega))).mono (Nat.le_refl _) (by have := HBW.out.size; omega)
                      go_wp2_with fail
                      refine (rsource_any (r := r) t _ _ _ _ _ HL.out.2.1 (HOWN.out r HR.out HALL.out) HI1.out).mono ?_
                      rintro e w1 ⟨rfl, hb1⟩
                      go_wp2
                      go_ret
                      exact ⟨rfl, below_next (below_next HBA.out HBW.out) hb1⟩
                · have q2 : (z != 0) = true := by simp [z1]
                  go_wp2
                  go_ret
                  exact ⟨ret_bool (is_false HR.out (HNO.out (fun h => by have := HKD.out.1 h; omega))), HB0.out⟩
              · have HN1 := Lib.hid n1
                go_wp2
                go_ret
                exact ⟨ret_bool (is_false HR.out (HNO.out (fun h => by
                  rcases HKD.out.1 h with ⟨h2, _⟩ | ⟨_, h2, _⟩ | ⟨_, h2, _⟩
                  · omega
                  · exact HN1.out h2
                  · exact HN1.out h2))), HB0.out⟩
            · have q1 : (kk == 1) = false := by simp [k1]
              have q2 : (kk == 2) = false := by simp [k2]
              have q3 : (kk == 3) = false := by simp [k3]
              go_wp2
              go_ret
              exact ⟨ret_bool (is_false HR.out (HNO.out (fun h => by have := HKD.out.1 h; omega))), HB0.out⟩
end Go.Proofs.Ytlgnghehgcoccaa
