/- The reference's Row: the walk. -/
import Derived.Test.YtjckbdbjcgjcaaaHpPlace
namespace Go.Proofs.Ytjckbdbjcgjcaaa
open Go.RowKit
/-- The sum of all widths and the first k spaces, as the reference reckons it. -/
def spW (l : List Bx) (g : List Int) : Nat → Int
  | 0 => widX l l.length
  | k + 1 => IntKind.i64.wrap (spW l g k + lAt g k)
def sumE (f : Nat → Int) : Nat → Int
  | 0 => 0
  | k + 1 => sumE f k + f k
theorem sumE_bound {f : Nat → Int} {b : Int} (hb : 0 ≤ b) : ∀ n, (∀ k, k < n → -b ≤ f k ∧ f k ≤ b) → -(b * n) ≤ sumE f n ∧ sumE f n ≤ b * n
  | 0, _ => by simp [sumE]
  | n + 1, h => by
    have h1 := sumE_bound hb n fun k hk => h k (by omega)
    have h2 := h n (by omega)
    rw [sumE]
    have e : b * ((n + 1 : Nat) : Int) = b * n + b := by rw [show ((n + 1 : Nat) : Int) = (n : Int) + 1 by omega, Int.mul_add, Int.mul_one]
    rw [e]
    omega
theorem widX_sum {l : List Bx} (h : allV l) (hl : l.length ≤ 1000) : ∀ n, n ≤ l.length → widX l n = sumE (fun k => (kidAt l k).w) n
  | 0, _ => rfl
  | n + 1, hn => by
    rw [widX, widX_sum h hl n (by omega), sumE]
    have h1 := sumE_bound (f := fun k => (kidAt l k).w) (b := 1073741824) (by omega) n fun k hk => by
      have := (h.num (i := k) (by omega)).1
      unfold rngL at this
      show -1073741824 ≤ (kidAt l k).w ∧ (kidAt l k).w ≤ 1073741824
      omega
    have h2 := (h.num (i := n) (by omega)).1
    unfold rngL at h2
    refine IntWalk.i64_in _ ?_
    show -9223372036854775808 ≤ sumE _ n + (kidAt l n).w ∧ sumE _ n + (kidAt l n).w ≤ 9223372036854775807
    omega
theorem endX_sum {l : List Bx} {g : List Int} (h : allV l) (hg : spcOk l g) (hl : l.length ≤ 1000) : ∀ n, n ≤ l.length → endX l (lAt g) n = sumE (fun k => (kidAt l k).w) n + sumE (lAt g) n
  | 0, _ => rfl
  | n + 1, hn => by
    have h1 := sumE_bound (f := fun k => (kidAt l k).w) (b := 1073741824) (by omega) n fun k hk => by
      have := (h.num (i := k) (by omega)).1
      unfold rngL at this
      show -1073741824 ≤ (kidAt l k).w ∧ (kidAt l k).w ≤ 1073741824
      omega
    have h3 := sumE_bound (f := lAt g) (b := 1073741824) (by omega) n fun k hk => by
      have := hg.2 k (by have := hg.1; omega)
      unfold rngL at this
      omega
    have h2 := (h.num (i := n) (by omega)).1
    have h4 := hg.2 n (by have := hg.1; omega)
    unfold rngL at h2 h4
    rw [endX, endX_sum h hg hl n (by omega)]
    have e1 : IntKind.i64.wrap (sumE (fun k => (kidAt l k).w) n + sumE (lAt g) n + lAt g n) = sumE (fun k => (kidAt l k).w) n + sumE (lAt g) n + lAt g n := IntWalk.i64_in _ (by omega)
    rw [e1]
    have e2 : sumE (fun k => (kidAt l k).w) (n + 1) + sumE (lAt g) (n + 1) = sumE (fun k => (kidAt l k).w) n + sumE (lAt g) n + lAt g n + (kidAt l n).w := by
      show (sumE (fun k => (kidAt l k).w) n + (kidAt l n).w) + (sumE (lAt g) n + lAt g n) = _
      omega
    rw [e2]
    exact IntWalk.i64_in _ (by omega)
theorem spW_sum {l : List Bx} {g : List Int} (h : allV l) (hg : spcOk l g) (hl : l.length ≤ 1000) : ∀ n, n ≤ l.length → spW l g n = sumE (fun k => (kidAt l k).w) l.length + sumE (lAt g) n
  | 0, _ => by show widX l l.length = _ + 0; rw [widX_sum h hl _ (Nat.le_refl _)]; omega
  | n + 1, hn => by
    have h1 := sumE_bound (f := fun k => (kidAt l k).w) (b := 1073741824) (by omega) l.length fun k hk => by
      have := (h.num (i := k) (by omega)).1
      unfold rngL at this
      show -1073741824 ≤ (kidAt l k).w ∧ (kidAt l k).w ≤ 1073741824
      omega
    have h3 := sumE_bound (f := lAt g) (b := 1073741824) (by omega) n fun k hk => by
      have := hg.2 k (by have := hg.1; omega)
      unfold rngL at this
      omega
    have h4 := hg.2 n (by have := hg.1; omega)
    unfold rngL at h4
    rw [spW, spW_sum h hg hl n (by omega), sumE]
    have e : sumE (fun k => (kidAt l k).w) l.length + sumE (lAt g) n + lAt g n = sumE (fun k => (kidAt l k).w) l.length + (sumE (lAt g) n + lAt g n) := by omega
    rw [← e]
    exact IntWalk.i64_in _ (by omega)
theorem spW_end {l : List Bx} {g : List Int} (h : allV l) (hg : spcOk l g) (hl : l.length ≤ 1000) : spW l g l.length = endX l (lAt g) l.length := by
  rw [spW_sum h hg hl _ (Nat.le_refl _), endX_sum h hg hl _ (Nat.le_refl _)]
set_option maxRecDepth 100000 in
set_option maxHeartbeats 2000000 in
theorem rrow_any (A : Option Addr) (l : List Bx) (c : Nat) (B : Option Addr) (g : List Int) (d : Nat) (w : World) (hc : cntL l ≤ 1000) (hg : g.length ≤ lenMax) (hK : Kids w 0 w.heap.size A l) (hI : Ints w 0 w.heap.size B g) :
    Calls Try.prog 19 #[.slice A l.length c, .slice B g.length d] w (PPost w.heap.size (rowR l g) (rowE l g) w) := by
  obtain ⟨i1, hi1, hy0, hy1, hy2⟩ := info_parts infoBox
  have HCN := Lib.hid hc
  have hl : l.length ≤ 1000 := by have := cnt_len l; omega
  have hg' : g.length ≤ 9223372036854775807 := hg
  have HK := Lib.hid (And.intro hK hI)
  obtain ⟨v, hv⟩ := bool_of (allV l)
  have HV := Lib.hid hv
  clear hc hg hK hI hv
  go_enter Try.func19, Try.ntmps19
  go_wp2_with fail
  have d0 := blk_new w (.cells zeroBox 28)
  have hb := one_below w (.cells zeroBox 28)
  refine (rhvalid_any A l c (w.alloc (.cells zeroBox 28)) HV.out HCN.out (HK.out.1.next hb)).mono ?_
  rintro e w1 ⟨rfl, hb1⟩
  have HZ := Lib.hid ((hb1.block w.heap.size (by simp)).trans d0)
  have HB1 := Lib.hid (below_next hb hb1)
  clear hb1 d0 hb
  cases v with
  | false =>
    go_wp2_with ((with_reducible refine at_store 28 ?_); go_loud (refine wpList_store_all i1 11 hi1 hy1 rfl rfl rfl HZ.out (by decide) (bxA_one zeroBx none 0 none 0) ?_); rw [row_all _ _ rfl rfl])
    refine bodyPost_ret (results_cell_tmp rfl _ i1 11 hi1 hy1 _ Try.underlying28 rfl rfl (fun j _ => by rw [Nat.zero_add]; exact cell_setRow_same _ _ _ _ _ _ _ HZ.out)) rfl ?_
    exact PPost.zero (row_1 fun h => by have := HV.out.2 h; simp at this) (below_setRow HB1.out (Nat.le_refl _) _)
  | true =>
    have HAV : Hid (allV l) := HV.out.1 rfl
    clear HV
    go_wp2_with fail
    refine (width_any A l c w1 hl (HK.out.1.next HB1.out)).mono ?_
    rintro e w2 ⟨rfl, hb2⟩
    have HW2 := Lib.hid hb2
    clear hb2
    go_wp2_with fail
    go_loopw [6, 7] (fun v q wr => ∃ i : Nat, i ≤ g.length ∧ q = .int .i64 (i : Int) ∧ v = .int .i64 (spW l g i) ∧ (∀ k, k < i → rngL (lAt g k)) ∧ Below w1.heap.size w1 wr) (fun _ q _ => g.length - (intOf q).toNat)
    case atStart => exact ⟨0, Nat.zero_le _, rfl, rfl, fun k hk => absurd hk (Nat.not_lt_zero _), HW2.out⟩
    case round =>
      obtain ⟨i, hi, rfl, rfl, hall, hbr⟩ := hrel
      have HALG := Lib.hid hall
      have HBR := Lib.hid hbr
      have HBW : Hid (Below w.heap.size w wr) := below_next HB1.out hbr
      have D6 : Hid (wr.heap[w.heap.size]? = some (.cells zeroBox 28 (0, 0))) := (hbr.block _ (Array.getElem?_eq_some_iff.1 HZ.out).1).trans HZ.out
      clear hall hbr
      by_cases hlt : i < g.length
      · obtain ⟨gb, go, rfl, _, hgb, hgc⟩ := HK.out.2 (by omega)
        obtain ⟨sp, hsp⟩ : ∃ sp, lAt g i = sp := ⟨_, rfl⟩
        have yg : wr.cell? ⟨gb, go + i, none⟩ = some (.int .i64 sp) := by rw [← hsp]; exact (HBW.out.cell (p := ⟨gb, go + i, none⟩) hgb).trans (hgc i hlt)
        obtain ⟨r, hr⟩ := bool_of (rngL sp)
        have HR2 := Lib.hid hr
        have HSP := Lib.hid hsp
        obtain ⟨v, hv⟩ : ∃ v, spW l g i = v := ⟨_, rfl⟩
        obtain ⟨v', hv'⟩ : ∃ v', spW l g (i + 1) = v' := ⟨_, rfl⟩
        have s1 : IntKind.i64.wrap (v + sp) = v' := by rw [← hv', spW, hv, hsp]
        have HN := Lib.hid hv'
        rw [hv]
        clear hr hsp hgc hv hv'
        go_wp2_with fail
        refine (rlvalid_any sp _ HR2.out).mono ?_
        rintro e w3 ⟨rfl, hw3⟩
        subst hw3
        cases r with
        | false =>
          go_wp2_with ((with_reducible refine at_store 28 ?_); go_loud (refine wpList_store_all i1 11 hi1 hy1 rfl rfl rfl D6.out (by decide) (bxA_one zeroBx none 0 none 0) ?_); rw [row_all _ _ rfl rfl])
          refine bodyPost_ret (results_cell_tmp rfl _ i1 11 hi1 hy1 _ Try.underlying28 rfl rfl (fun j _ => by rw [Nat.zero_add]; exact cell_setRow_same _ _ _ _ _ _ _ D6.out)) rfl ?_
          exact PPost.zero (row_2 HAV.out fun h => by have h2 := HR2.out.2 (by rw [← HSP.out]; exact h.2 i hlt); simp at h2) (below_setRow HBW.out (Nat.le_refl _) _)
        | true =>
          have HVI : Hid (rngL sp) := HR2.out.1 rfl
          clear HR2
          go_wp2_with fail
          try (go_quiet (fail); go_wp2_with fail)
          go_roundw
          case rel => exact ⟨i + 1, by omega, by go_num, by rw [HN.out], fun k hk => by
            rcases Nat.lt_succ_iff_lt_or_eq.1 hk with h | rfl
            · exact HALG.out k h
            · rw [HSP.out]; exact HVI.out, by first | exact HBR.out | exact below_drewN HBR.out _⟩
          case measure => simp [intOf]; omega
      · obtain rfl : i = g.length := by omega
        by_cases hgl : g.length = l.length
        case neg =>
          have q0 : ¬ ((g.length : Int) = (l.length : Int)) := by omega
          have q1 : ((g.length : Int) != (l.length : Int)) = true := by simp; omega
          have HGL := Lib.hid hgl
          clear hgl
          go_wp2_with ((with_reducible refine at_store 28 ?_); go_loud (refine wpList_store_all i1 11 hi1 hy1 rfl rfl rfl D6.out (by decide) (bxA_one zeroBx none 0 none 0) ?_); rw [row_all _ _ rfl rfl])
          refine bodyPost_ret (results_cell_tmp rfl _ i1 11 hi1 hy1 _ Try.underlying28 rfl rfl (fun j _ => by rw [Nat.zero_add]; exact cell_setRow_same _ _ _ _ _ _ _ D6.out)) rfl ?_
          exact PPost.zero (row_2 HAV.out fun h => HGL.out h.1) (below_setRow HBW.out (Nat.le_refl _) _)
        have HOK : Hid (spcOk l g) := ⟨hgl, HALG.out⟩
        have hpe := row_3 HAV.out HOK.out
        have HPE := Lib.hid hpe
        have hse := spW_end HAV.out HOK.out hl
        have HGL := Lib.hid hgl
        rw [hgl, hse]
        clear hpe hse hgl
        go_wp2_with fail
        have hws : w.heap.size < w1.heap.size := (Array.getElem?_eq_some_iff.1 HZ.out).1
        have hws2 := HBR.out.size
        refine (rplace_any w.heap.size A l c B g l.length d (endX l (lAt g) l.length) wr HCN.out HAV.out HGL.out (Nat.le_refl _) (by unfold lenMax; omega) (by omega) ((HK.out.1.low HBW.out).rowIn (by omega)) (HK.out.2.next HBW.out)).mono ?_
        rintro e w5 hp5
        obtain ⟨A2, c2, rfl, hz5, hp6⟩ := PPost.up (w := w) hp5 (Nat.le_refl _) (by omega) rfl (below_next HBW.out hp5.2) ((hp5.2.block _ (by omega)).trans D6.out)
        rw [← HPE.out.1, ← HPE.out.2] at hp6 ⊢
        have HP6 := Lib.hid hp6
        have HZ5 := Lib.hid hz5
        clear hp5 hp6 hz5 hws hws2
        go_wp2_with ((with_reducible refine at_store 28 ?_); go_loud (refine wpList_store_all i1 11 hi1 hy1 rfl rfl rfl HZ5.out (by decide) (bxA_one (rowR l g) A2 c2 none 0) ?_); rw [row_all _ _ rfl rfl])
        refine bodyPost_ret (results_cell_tmp rfl _ i1 11 hi1 hy1 _ Try.underlying28 rfl rfl (fun j _ => by rw [Nat.zero_add]; exact cell_setRow_same _ _ _ _ _ _ _ HZ5.out)) rfl ?_
        exact HP6.out
end Go.Proofs.Ytjckbdbjcgjcaaa
