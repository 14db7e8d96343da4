/- The reference's Count, Nested, size, Few. -/
import Derived.Test.YtlgnghehgcoccaaBoxBase
import Derived.Test.YtlgnghehgcoccaaChecked
namespace Go.Proofs.Ytlgnghehgcoccaa
open Go.RowKit
set_option maxHeartbeats 1000000 in
theorem rcount_any : ∀ (n : Nat) (t : Bx), cntB t ≤ n → n ≤ 1000000 → ∀ (A : Option Addr) (c : Nat) (A' : Option Addr) (c' : Nat) (w : World), Kids w 0 w.heap.size A t.kids →
    Calls Try.prog 25 #[.agg (bxA t A c A' c')] w fun e w' => e = .returned (.int .i64 (cntB t : Int)) ∧ Below w.heap.size w w' := by
  intro n
  induction n with
  | zero => intro t h; have := cntB_pos t; omega
  | succ n ih =>
    intro t hn hn1 A c A' c' w hK
    have HK : Hid (Kids (w.alloc (.cells (bxA t A c A' c') 25)) 0 w.heap.size A t.kids) := hK.low (one_below _ _)
    have HC := Lib.hid (cntB_eq t)
    have hlen := cnt_len t.kids
    have hc1 := cntB_eq t
    have hc2 : cntB t ≤ 1000000 := by omega
    have hc3 : cntL t.kids ≤ n := by omega
    skip
    clear hK hn
    go_enter Try.func25, Try.ntmps25
    go_wp2_with fail
    have HB0 : Hid (Below w.heap.size w (w.alloc (.cells (bxA t A c A' c') 25))) := one_below _ _
    have HD0 : Hid ((w.alloc (.cells (bxA t A c A' c') 25)).heap[w.heap.size]? = some (.cells (bxA t A c A' c') 25 (0, 0))) := blk_new _ _
    have hs0 : w.heap.size < (w.alloc (.cells (bxA t A c A' c') 25)).heap.size := by simp
    generalize (w.alloc (.cells (bxA t A c A' c') 25)) = W0 at HK HB0 HD0 hs0 ⊢
    go_loopw [3, 4] (fun v q wr => ∃ k : Nat, k ≤ t.kids.length ∧ q = .int .i64 (k : Int) ∧ v = .int .i64 (1 + (cntL (t.kids.take k) : Int)) ∧ Below W0.heap.size W0 wr) (fun _ q _ => t.kids.length - (intOf q).toNat)
    case atStart => exact ⟨0, Nat.zero_le _, rfl, by simp [cntL_nil], Below.refl _ _⟩
    case round =>
      obtain ⟨k, hk, rfl, rfl, hbw⟩ := hrel
      have HBW := Lib.hid hbw
      have d8 : wr.cell? ⟨w.heap.size, 8, none⟩ = some (.slice A t.kids.length c) := blk_cell ((hbw.block _ hs0).trans HD0.out) 8 _ rfl
      clear hbw
      by_cases hlt : k < t.kids.length
      · obtain ⟨b, off, A1, c1, A2, c2, rfl, _, hb, hat, hk1, _⟩ := HK.out.at hlt
        have hbS : b < W0.heap.size := by omega
        obtain ⟨e0, e1, e2, e3, e4, e5, e6, e7, e8, e9, e10⟩ := (hat.below HBW.out hbS).cells
        have hct := cnt_take t.kids hlt
        have hck := cnt_kid t.kids hlt
        have hcl := cnt_take_le t.kids (k + 1)
        obtain ⟨u, hu⟩ : ∃ u, kidAt t.kids k = u := ⟨_, rfl⟩
        rw [hu] at e0 e1 e2 e3 e4 e5 e6 e7 e8 e9 e10 hct hck hk1
        have HK1 : Hid (Kids wr 0 wr.heap.size A1 u.kids) := by
          show Kids _ _ _ _ _
          exact (hk1.low (HBW.out.mono (by omega))).mono (Nat.le_refl _) (by have := HBW.out.size; omega)
        have hub : cntB u ≤ n := by omega
        obtain ⟨m, hm⟩ : ∃ m, cntL (t.kids.take k) = m := ⟨_, rfl⟩
        rw [hm] at hct ⊢
        have HCT := Lib.hid hct
        have s1 : IntKind.i64.wrap (1 + (m : Int) + (cntB u : Int)) = 1 + (m : Int) + (cntB u : Int) := IntWalk.i64_in _ (by omega)
        clear hat hk1 hu hm hct
        go_wp2_with fail
        refine (ih u hub (by omega) A1 c1 A2 c2 _ HK1.out).mono ?_
        rintro e w1 ⟨rfl, hb1⟩
        have HB1 := Lib.hid (below_next HBW.out hb1)
        clear hb1
        go_wp2_with fail
        go_roundw
        case rel => exact ⟨k + 1, by omega, by go_num, by rw [HCT.out]; congr 1; omega, HB1.out⟩
        case measure => simp [intOf]; omega
      · obtain rfl : k = t.kids.length := by omega
        have e1 : 1 + (cntL (t.kids.take t.kids.length) : Int) = (cntB t : Int) := by rw [List.take_length, HC.out]; omega
        rw [e1]
        go_wp2
        go_ret
        exact ⟨rfl, below_next HB0.out HBW.out⟩
set_option maxHeartbeats 1000000 in
theorem rnest_any : ∀ (n : Nat) (t : Bx), cntB t ≤ n → n ≤ 1000000 → ∀ (A : Option Addr) (c : Nat) (A' : Option Addr) (c' : Nat) (w : World), Kids w 0 w.heap.size A t.kids →
    Calls Try.prog 32 #[.agg (bxA t A c A' c')] w fun e w' => e = .returned (.int .i64 (nestB t : Int)) ∧ Below w.heap.size w w' := by
  intro n
  induction n with
  | zero => intro t h; have := cntB_pos t; omega
  | succ n ih =>
    intro t hn hn1 A c A' c' w hK
    have HK : Hid (Kids (w.alloc (.cells (bxA t A c A' c') 25)) 0 w.heap.size A t.kids) := hK.low (one_below _ _)
    have HC := Lib.hid (cntB_eq t)
    have hlen := cnt_len t.kids
    have hc1 := cntB_eq t
    have hc2 : cntB t ≤ 1000000 := by omega
    have hc3 : cntL t.kids ≤ n := by omega
    have hnb := nest_cnt _ t (Nat.le_refl _)
    have hne := nestB_eq t
    have HNE := Lib.hid hne
    clear hK hn
    go_enter Try.func32, Try.ntmps32
    go_wp2_with fail
    have HB0 : Hid (Below w.heap.size w (w.alloc (.cells (bxA t A c A' c') 25))) := one_below _ _
    have HD0 : Hid ((w.alloc (.cells (bxA t A c A' c') 25)).heap[w.heap.size]? = some (.cells (bxA t A c A' c') 25 (0, 0))) := blk_new _ _
    have hs0 : w.heap.size < (w.alloc (.cells (bxA t A c A' c') 25)).heap.size := by simp
    generalize (w.alloc (.cells (bxA t A c A' c') 25)) = W0 at HK HB0 HD0 hs0 ⊢
    go_loopw [3, 4] (fun v q wr => ∃ k : Nat, k ≤ t.kids.length ∧ q = .int .i64 (k : Int) ∧ v = .int .i64 (nestL (t.kids.take k) : Int) ∧ Below W0.heap.size W0 wr) (fun _ q _ => t.kids.length - (intOf q).toNat)
    case atStart => exact ⟨0, Nat.zero_le _, rfl, by simp [nestL_nil], Below.refl _ _⟩
    case round =>
      obtain ⟨k, hk, rfl, rfl, hbw⟩ := hrel
      have HBW := Lib.hid hbw
      have d8 : wr.cell? ⟨w.heap.size, 8, none⟩ = some (.slice A t.kids.length c) := blk_cell ((hbw.block _ hs0).trans HD0.out) 8 _ rfl
      clear hbw
      by_cases hlt : k < t.kids.length
      · obtain ⟨b, off, A1, c1, A2, c2, rfl, _, hb, hat, hk1, _⟩ := HK.out.at hlt
        have hbS : b < W0.heap.size := by omega
        obtain ⟨e0, e1, e2, e3, e4, e5, e6, e7, e8, e9, e10⟩ := (hat.below HBW.out hbS).cells
        have hct := cnt_take t.kids hlt
        have hck := cnt_kid t.kids hlt
        have hcl := cnt_take_le t.kids (k + 1)
        have hnt := nest_take t.kids hlt
        obtain ⟨u, hu⟩ : ∃ u, kidAt t.kids k = u := ⟨_, rfl⟩
        rw [hu] at e0 e1 e2 e3 e4 e5 e6 e7 e8 e9 e10 hct hck hk1 hnt
        have HK1 : Hid (Kids wr 0 wr.heap.size A1 u.kids) := by
          show Kids _ _ _ _ _
          exact (hk1.low (HBW.out.mono (by omega))).mono (Nat.le_refl _) (by have := HBW.out.size; omega)
        have hub : cntB u ≤ n := by omega
        obtain ⟨m, hm⟩ : ∃ m, nestL (t.kids.take k) = m := ⟨_, rfl⟩
        rw [hm] at hnt ⊢
        have HNT := Lib.hid hnt
        have HNU := nest_cnt _ u (Nat.le_refl _)
        obtain ⟨x, hx⟩ : ∃ x, nestB u = x := ⟨_, rfl⟩
        have IH := fun X hX => ih u hub (by omega) A1 c1 A2 c2 X hX
        rw [hx] at IH HNT HNU
        have HIH := Lib.hid IH
        clear hat hk1 hu hm hct hnt hx IH
        by_cases hmx : m ≤ x
        · have q1 : (m : Int) ≤ (x : Int) := by omega
          have q2 : ¬ ((x : Int) < (m : Int)) := by omega
          by_cases hmx2 : (m : Int) < (x : Int)
          all_goals
            go_wp2_with fail
            refine (HIH.out _ HK1.out).mono ?_
            rintro e w1 ⟨rfl, hb1⟩
            have HB1 := Lib.hid (below_next HBW.out hb1)
            clear hb1
            go_wp2_with fail
            go_roundw
            case rel => exact ⟨k + 1, by omega, by go_num, by rw [HNT.out]; congr 1; omega, HB1.out⟩
            case measure => simp [intOf]; omega
        · have q1 : ¬ ((m : Int) ≤ (x : Int)) := by omega
          have q2 : (x : Int) < (m : Int) := by omega
          have q3 : ¬ ((m : Int) < (x : Int)) := by omega
          go_wp2_with fail
          refine (HIH.out _ HK1.out).mono ?_
          rintro e w1 ⟨rfl, hb1⟩
          have HB1 := Lib.hid (below_next HBW.out hb1)
          clear hb1
          go_wp2_with fail
          go_roundw
          case rel => exact ⟨k + 1, by omega, by go_num, by rw [HNT.out]; congr 1; omega, HB1.out⟩
          case measure => simp [intOf]; omega
      · obtain rfl : k = t.kids.length := by omega
        rw [List.take_length]
        have hnx := HNE.out
        go_wp2
        go_ret
        exact ⟨by rw [HNE.out]; rfl, below_next HB0.out HBW.out⟩
set_option maxHeartbeats 1000000 in
theorem rsize_any : ∀ (n : Nat) (t : Bx) (most : Nat), cntB t ≤ n → 1 ≤ most → most ≤ 1000000 → ∀ (A : Option Addr) (c : Nat) (A' : Option Addr) (c' : Nat) (w : World), Kids w 0 w.heap.size A t.kids →
    Calls Try.prog 26 #[.agg (bxA t A c A' c'), .int .i64 (most : Int)] w fun e w' => e = .returned (.int .i64 ((min (cntB t) most : Nat) : Int)) ∧ Below w.heap.size w w' := by
  intro n
  induction n with
  | zero => intro t most h; have := cntB_pos t; omega
  | succ n ih =>
    intro t most hn hm0 hm1 A c A' c' w hK
    have HK : Hid (Kids (w.alloc (.cells (bxA t A c A' c') 25)) 0 w.heap.size A t.kids) := hK.low (one_below _ _)
    have HC := Lib.hid (cntB_eq t)
    have hlen := cnt_len t.kids
    have hc1 := cntB_eq t
    have hc3 : cntL t.kids ≤ n := by omega
    skip
    clear hK hn
    go_enter Try.func26, Try.ntmps26
    go_wp2_with fail
    have HB0 : Hid (Below w.heap.size w (w.alloc (.cells (bxA t A c A' c') 25))) := one_below _ _
    have HD0 : Hid ((w.alloc (.cells (bxA t A c A' c') 25)).heap[w.heap.size]? = some (.cells (bxA t A c A' c') 25 (0, 0))) := blk_new _ _
    have hs0 : w.heap.size < (w.alloc (.cells (bxA t A c A' c') 25)).heap.size := by simp
    generalize (w.alloc (.cells (bxA t A c A' c') 25)) = W0 at HK HB0 HD0 hs0 ⊢
    go_loopw [5, 6] (fun v q wr => ∃ k : Nat, k ≤ t.kids.length ∧ q = .int .i64 (k : Int) ∧ v = .int .i64 ((min (1 + cntL (t.kids.take k)) most : Nat) : Int) ∧ Below W0.heap.size W0 wr) (fun _ q _ => t.kids.length - (intOf q).toNat)
    case atStart => exact ⟨0, Nat.zero_le _, rfl, by simp [cntL_nil]; omega, Below.refl _ _⟩
    case round =>
      obtain ⟨k, hk, rfl, rfl, hbw⟩ := hrel
      have HBW := Lib.hid hbw
      have d8 : wr.cell? ⟨w.heap.size, 8, none⟩ = some (.slice A t.kids.length c) := blk_cell ((hbw.block _ hs0).trans HD0.out) 8 _ rfl
      clear hbw
      by_cases hlt : k < t.kids.length
      · obtain ⟨b, off, A1, c1, A2, c2, rfl, _, hb, hat, hk1, _⟩ := HK.out.at hlt
        have hbS : b < W0.heap.size := by omega
        obtain ⟨e0, e1, e2, e3, e4, e5, e6, e7, e8, e9, e10⟩ := (hat.below HBW.out hbS).cells
        have hct := cnt_take t.kids hlt
        have hck := cnt_kid t.kids hlt
        have hcl := cnt_take_le t.kids (k + 1)
        obtain ⟨u, hu⟩ : ∃ u, kidAt t.kids k = u := ⟨_, rfl⟩
        rw [hu] at e0 e1 e2 e3 e4 e5 e6 e7 e8 e9 e10 hct hck hk1
        have HK1 : Hid (Kids wr 0 wr.heap.size A1 u.kids) := by
          show Kids _ _ _ _ _
          exact (hk1.low (HBW.out.mono (by omega))).mono (Nat.le_refl _) (by have := HBW.out.size; omega)
        have hub : cntB u ≤ n := by omega
        obtain ⟨m, hm⟩ : ∃ m, cntL (t.kids.take k) = m := ⟨_, rfl⟩
        rw [hm] at hct ⊢
        have HCT := Lib.hid hct
        have hkm : k ≤ m := by have := cnt_len (t.kids.take k); rw [hm, List.length_take] at this; omega
        by_cases hfull : 1 + m < most
        · have hkb : k ≤ 1000000 := by omega
          have e11 : min (1 + m) most = 1 + m := by omega
          rw [e11]
          have s1 : IntKind.i64.wrap ((most : Int) - ((1 + m : Nat) : Int)) = ((most - (1 + m) : Nat) : Int) := by rw [IntWalk.i64_in _ (by omega)]; omega
          have s2 : IntKind.i64.wrap (((1 + m : Nat) : Int) + ((min (cntB u) (most - (1 + m)) : Nat) : Int)) = ((min (1 + m + cntB u) most : Nat) : Int) := by rw [IntWalk.i64_in _ (by omega)]; omega
          have q1 : ((1 + m : Nat) : Int) < (most : Int) := by omega
          obtain ⟨z, hz⟩ : ∃ z : Int, z = ((1 + m : Nat) : Int) := ⟨_, rfl⟩
          obtain ⟨y, hy⟩ : ∃ y : Nat, min (cntB u) (most - (1 + m)) = y := ⟨_, rfl⟩
          obtain ⟨v, hv⟩ : ∃ v : Nat, min (1 + m + cntB u) most = v := ⟨_, rfl⟩
          obtain ⟨r, hr⟩ : ∃ r : Nat, most - (1 + m) = r := ⟨_, rfl⟩
          have IH := fun X hX => ih u r hub (by omega) (by omega) A1 c1 A2 c2 X hX
          rw [hr] at s1 hy
          rw [hy] at IH
          rw [← hz] at s1 s2 q1 ⊢
          rw [hr, hy, hv] at s2
          have HIH := Lib.hid IH
          have HV := Lib.hid hv
          clear hat hk1 hu hm hct hfull e11 hz hy hv hr IH
          go_wp2_with fail
          refine (HIH.out _ HK1.out).mono ?_
          rintro e w1 ⟨rfl, hb1⟩
          have HB1 := Lib.hid (below_next HBW.out hb1)
          clear hb1
          go_wp2_with fail
          go_roundw
          case rel => exact ⟨k + 1, by omega, by go_num, by rw [HCT.out, ← HV.out, Nat.add_assoc], HB1.out⟩
          case measure => simp [intOf]; omega
        · have e11 : min (1 + m) most = most := by omega
          have e12 : min (cntB t) most = most := by omega
          rw [e11]
          have HE := Lib.hid e12
          clear e11 e12 hfull hct hm
          go_wp2
          go_ret
          exact ⟨by rw [HE.out]; rfl, below_next HB0.out HBW.out⟩
      · obtain rfl : k = t.kids.length := by omega
        have e1 : min (1 + cntL (t.kids.take t.kids.length)) most = min (cntB t) most := by rw [List.take_length, HC.out]
        rw [e1]
        go_wp2
        go_ret
        exact ⟨rfl, below_next HB0.out HBW.out⟩
/-- Few: whether a box has at most a number of boxes. -/
theorem rfew_any {r : Bool} (t : Bx) (m : Nat) (A : Option Addr) (c : Nat) (A' : Option Addr) (c' : Nat) (w : World) (hm : m < 100000) (hr : decide (cntB t ≤ m) = r) (hK : Kids w 0 w.heap.size A t.kids) :
    Calls Try.prog 8 #[.agg (bxA t A c A' c'), .int .i64 (m : Int)] w fun e w' => e = .returned (.bool r) ∧ Below w.heap.size w w' := by
  have HK : Hid (Kids (w.alloc (.cells (bxA t A c A' c') 25)) 0 (w.alloc (.cells (bxA t A c A' c') 25)).heap.size A t.kids) := by
    show Kids _ _ _ _ _
    exact hK.next (one_below _ _)
  have HR := Lib.hid hr
  have HB0 : Hid (Below w.heap.size w (w.alloc (.cells (bxA t A c A' c') 25))) := one_below _ _
  have s1 : IntKind.i64.wrap ((m : Int) + 1) = ((m + 1 : Nat) : Int) := by rw [IntWalk.i64_in _ (by omega)]; rfl
  obtain ⟨m1, hm1⟩ : ∃ m1 : Nat, m + 1 = m1 := ⟨_, rfl⟩
  rw [hm1] at s1
  have HM1 := Lib.hid hm1
  have HC : ∀ X, Kids X 0 X.heap.size A t.kids → Calls Try.prog 26 #[.agg (bxA t A c A' c'), .int .i64 (m1 : Int)] X fun e w' => e = .returned (.int .i64 ((min (cntB t) m1 : Nat) : Int)) ∧ Below X.heap.size X w' := fun X hX => by
    exact rsize_any (cntB t) t m1 (Nat.le_refl _) (by omega) (by omega) A c A' c' X hX
  have HCC := Lib.hid HC
  obtain ⟨z, hz⟩ : ∃ z : Nat, min (cntB t) m1 = z := ⟨_, rfl⟩
  rw [hz] at HCC
  clear hK hr HC hm1
  go_enter Try.func8, Try.ntmps8
  go_wp2_with fail
  refine (HCC.out _ HK.out).mono ?_
  rintro e w1 ⟨rfl, hb1⟩
  go_wp2
  go_ret
  refine ⟨ret_bool ?_, below_next HB0.out hb1⟩
  rw [← HR.out]
  have := HM1.out
  exact decide_eq_decide.2 (by omega)
end Go.Proofs.Ytlgnghehgcoccaa
