/- The law on Row: the walk. -/
import Derived.Test.YtjckbdbjcgjcaaaHpAwake
import Derived.Test.YtjckbdbjcgjcaaaBoxREq
namespace Go.Proofs.Ytjckbdbjcgjcaaa
open Go.RowKit
theorem rowR_lens {l : List Bx} {g : List Int} (h : l.length ≤ 1000) (hc : cntL l ≤ 1000) : lens (rowR l g) ∧ cntB (rowR l g) ≤ 1001 ∧ (rowR l g).src = [] := by
  have hz : lens zeroBx ∧ cntB zeroBx ≤ 1001 ∧ zeroBx.src = [] := ⟨zeroBx_lens.1, zeroBx_lens.2, rfl⟩
  by_cases h1 : allV l
  case neg => rw [(row_1 h1).2]; exact hz
  by_cases h2 : spcOk l g
  case neg => rw [(row_2 h1 h2).2]; exact hz
  rw [(row_3 h1 h2).2]
  exact putR_lens h hc
set_option maxRecDepth 100000 in
set_option maxHeartbeats 1500000 in
theorem hpackRow_walk (A : Option Addr) (l : List Bx) (c : Nat) (B : Option Addr) (g : List Int) (d : Nat) (w : World) (hl : l.length ≤ lenMax) (hg : g.length ≤ lenMax) (hK : Kids w 0 w.heap.size A l) (hI : Ints w 0 w.heap.size B g) :
    Calls Try.prog 5 #[.slice A l.length c, .slice B g.length d] w fun e w' => e = .returned (.bool true) ∧ Below w.heap.size w w' := by
  obtain ⟨i1, hi1, hy0, hy1, hy2⟩ := info_parts infoBox
  have HK := Lib.hid (And.intro hK hI)
  have HL := Lib.hid hl
  have HG := Lib.hid hg
  have hl' : l.length ≤ 9223372036854775807 := hl
  have hg' : g.length ≤ 9223372036854775807 := hg
  clear hK hI hl hg
  go_enter Try.func5, Try.ntmps5
  go_wp2_with fail
  refine (hawake_any w).mono ?_
  rintro e w1 ⟨rfl, hb1⟩
  have HB1 := Lib.hid hb1
  clear hb1
  obtain ⟨r, hr⟩ : ∃ r, decide (1 + cntL l ≤ 400) = r := ⟨_, rfl⟩
  have HR := Lib.hid hr
  clear hr
  go_wp2_with fail
  refine (few_any l 400 A c w1 (by omega) HR.out (HK.out.1.next HB1.out)).mono ?_
  rintro e w2 ⟨rfl, hb2⟩
  have HB2 := Lib.hid (below_next HB1.out hb2)
  clear hb2
  cases r with
  | false =>
    go_wp2
    go_ret
    exact ⟨rfl, HB2.out⟩
  | true =>
    have HCN : Hid (cntL l ≤ 1000) := by have := of_decide_eq_true HR.out; show _ ≤ _; omega
    clear HR
    by_cases hg4 : g.length ≤ 400
    case neg =>
      go_wp2
      go_ret
      exact ⟨rfl, HB2.out⟩
    have HLE : Hid (lens (rowR l g) ∧ cntB (rowR l g) ≤ 1001 ∧ (rowR l g).src = []) := by
      have hl2 : l.length ≤ 1000 := by have := cnt_len l; have := HCN.out; omega
      exact rowR_lens hl2 HCN.out
    have HCA : Hid (∀ W, Below w.heap.size w W → Calls Try.prog 18 #[.slice A l.length c, .slice B g.length d] W (PPost W.heap.size (rowR l g) (rowE l g) W)) := fun W hW => hrow_any A l c B g d W HCN.out HG.out (HK.out.1.next hW) (HK.out.2.next hW)
    have HCR : Hid (∀ W, Below w.heap.size w W → Calls Try.prog 19 #[.slice A l.length c, .slice B g.length d] W (PPost W.heap.size (rowR l g) (rowE l g) W)) := fun W hW => rrow_any A l c B g d W HCN.out HG.out (HK.out.1.next hW) (HK.out.2.next hW)
    generalize rowR l g = R at HLE HCA HCR
    generalize rowE l g = E at HCA HCR
    go_wp2_with fail
    refine (HCA.out w2 HB2.out).mono ?_
    rintro e w3 hp3
    obtain ⟨A3, c3, rfl, hk3, hb3⟩ := hp3.now
    have HB3 := Lib.hid (below_next HB2.out hb3)
    have HK3 := Lib.hid hk3
    clear hb3 hk3 hp3
    go_wp2_with fail
    have HB4 : Hid (Below w3.heap.size w3 (w3.alloc (.cells (bxA R A3 c3 none 0) 28))) := one_below _ _
    have HD4 := Lib.hid (blk_new w3 (.cells (bxA R A3 c3 none 0) 28))
    refine (HCR.out (w3.alloc (.cells (bxA R A3 c3 none 0) 28)) (below_next HB3.out HB4.out)).mono ?_
    rintro e w5 hp5
    obtain ⟨A5, c5, rfl, hk5, hb5⟩ := hp5.now
    have HB5 : Hid (Below w3.heap.size w3 w5) := below_next HB4.out hb5
    have HK5 := Lib.hid hk5
    have HD5 : Hid (w5.heap[w3.heap.size]? = some (.cells (bxA R A3 c3 none 0) 28 (0, 0))) := (hb5.block _ (by simp)).trans HD4.out
    have HB6 : Hid (Below w5.heap.size w5 (w5.alloc (.cells (bxA R A5 c5 none 0) 28))) := one_below _ _
    have d6 := blk_more HD5.out (.cells (bxA R A5 c5 none 0) 28)
    have x0 : (w5.alloc (.cells (bxA R A5 c5 none 0) 28)).cell? ⟨w3.heap.size, 0, none⟩ = some (.int .i64 R.k) := blk_cell d6 0 _ rfl
    have x1 : (w5.alloc (.cells (bxA R A5 c5 none 0) 28)).cell? ⟨w3.heap.size, 1, none⟩ = some (.string R.nm) := blk_cell d6 1 _ rfl
    have x2 : (w5.alloc (.cells (bxA R A5 c5 none 0) 28)).cell? ⟨w3.heap.size, 2, none⟩ = some (.int .i64 R.sz) := blk_cell d6 2 _ rfl
    have x3 : (w5.alloc (.cells (bxA R A5 c5 none 0) 28)).cell? ⟨w3.heap.size, 3, none⟩ = some (.int .i64 R.w) := blk_cell d6 3 _ rfl
    have x4 : (w5.alloc (.cells (bxA R A5 c5 none 0) 28)).cell? ⟨w3.heap.size, 4, none⟩ = some (.int .i64 R.h) := blk_cell d6 4 _ rfl
    have x5 : (w5.alloc (.cells (bxA R A5 c5 none 0) 28)).cell? ⟨w3.heap.size, 5, none⟩ = some (.int .i64 R.d) := blk_cell d6 5 _ rfl
    have x6 : (w5.alloc (.cells (bxA R A5 c5 none 0) 28)).cell? ⟨w3.heap.size, 6, none⟩ = some (.int .i64 R.x) := blk_cell d6 6 _ rfl
    have x7 : (w5.alloc (.cells (bxA R A5 c5 none 0) 28)).cell? ⟨w3.heap.size, 7, none⟩ = some (.int .i64 R.y) := blk_cell d6 7 _ rfl
    have x8 : (w5.alloc (.cells (bxA R A5 c5 none 0) 28)).cell? ⟨w3.heap.size, 8, none⟩ = some (.slice A3 R.kids.length c3) := blk_cell d6 8 _ rfl
    have x9 : (w5.alloc (.cells (bxA R A5 c5 none 0) 28)).cell? ⟨w3.heap.size, 9, none⟩ = some (.int .i64 R.of_) := blk_cell d6 9 _ rfl
    have x10 : (w5.alloc (.cells (bxA R A5 c5 none 0) 28)).cell? ⟨w3.heap.size, 10, none⟩ = some (.slice none R.src.length 0) := blk_cell d6 10 _ rfl
    clear hb5 hk5 d6 hp5
    go_wp2_with fail
    clear x0 x1 x2 x3 x4 x5 x6 x7 x8 x9 x10
    change Calls Try.prog _ #[.agg (bxA R A3 c3 none 0), .agg (bxA R A5 c5 none 0)] (w5.alloc (.cells (bxA R A5 c5 none 0) 28)) _
    have hx : Below w3.heap.size w3 (w5.alloc (.cells (bxA R A5 c5 none 0) 28)) := below_next HB5.out HB6.out
    refine (requal_any (cntB R) true R R (Nat.le_refl _) HLE.out.1 HLE.out.1 ⟨fun _ => rfl, fun _ => rfl⟩ A3 c3 none 0 A5 c5 none 0 (w5.alloc (.cells (bxA R A5 c5 none 0) 28)) (HK3.out.next hx) (by rw [HLE.out.2.2]; exact fun h => absurd h (by simp)) (HK5.out.next HB6.out) (by rw [HLE.out.2.2]; exact fun h => absurd h (by simp))).mono ?_
    rintro e w7 ⟨rfl, hb7⟩
    have HB7 := Lib.hid (below_next HB3.out (below_next hx hb7))
    clear hx hb7
    go_wp2
    go_ret
    exact ⟨rfl, HB7.out⟩
end Go.Proofs.Ytjckbdbjcgjcaaa
