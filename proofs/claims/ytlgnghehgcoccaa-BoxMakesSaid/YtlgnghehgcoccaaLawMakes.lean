/- The law BoxMakes: the walk up to its last region. -/
import Derived.Test.YtlgnghehgcoccaaBoxList
import Derived.Test.YtlgnghehgcoccaaBoxMk
import Derived.Test.YtlgnghehgcoccaaBoxAwake
import Derived.Test.YtlgnghehgcoccaaBoxCnt
import Derived.Test.YtlgnghehgcoccaaBoxREq
import Derived.Deep.RegionHeld3
namespace Go.Proofs.Ytlgnghehgcoccaa
open Go.RowKit
def Tame (l : List Bx) : Prop := l.length ≤ 200 ∧ ∀ i, i < l.length → cntB (kidAt l i) ≤ 200
theorem Tame.cnt {l : List Bx} (h : Tame l) : cntL l ≤ 40000 := by
  have hk : ∀ n, n ≤ l.length → cntL (l.take n) ≤ n * 200 := fun n => by
    induction n with
    | zero => intro _; simp [cntL_nil]
    | succ n ih =>
      intro hn
      rw [cnt_take l (by omega)]
      have := ih (by omega)
      have := h.2 n (by omega)
      omega
  have := hk l.length (Nat.le_refl _)
  rw [List.take_length] at this
  have := h.1
  omega
set_option maxRecDepth 100000 in
set_option maxHeartbeats 4000000 in
theorem tame_any {r : Bool} (l : List Bx) (A : Option Addr) (c : Nat) (w : World) (hl : l.length ≤ lenMax) (hr : r = true ↔ Tame l) (hK : Kids w 0 w.heap.size A l) :
    Calls Try.prog 11 #[.slice A l.length c] w fun e w' => e = .returned (.bool r) ∧ Below w.heap.size w w' := by
  obtain ⟨i1, hi1, hy0, hy1, hy2⟩ := info_parts infoBox
  have HK := Lib.hid hK
  have HR := Lib.hid hr
  have hl' : l.length ≤ 9223372036854775807 := hl
  clear hK hr hl
  by_cases h200 : l.length ≤ 200
  · go_enter Try.func11, Try.ntmps11
    go_wp2_with fail
    go_loopw [3] (fun q wr => ∃ i : Nat, i ≤ l.length ∧ q = .int .i64 (i : Int) ∧ (∀ k, k < i → cntB (kidAt l k) ≤ 200) ∧ Below w.heap.size w wr) (fun q _ => l.length - (intOf q).toNat)
    case atStart => exact ⟨0, Nat.zero_le _, rfl, fun k hk => absurd hk (Nat.not_lt_zero _), Below.refl _ _⟩
    case round =>
      obtain ⟨i, hi, rfl, hall, hbw⟩ := hrel
      have HALL := Lib.hid hall
      have HB := Lib.hid hbw
      clear hall hbw
      by_cases hlt : i < l.length
      · obtain ⟨kb, ko, A1, c1, A2, c2, rfl, _, hkb, hat, hk1, hi1', hl1⟩ := HK.out.at hlt
        have HC : Hid (∀ j, j < 11 → wr.cell? ⟨kb, ko + i * 11 + j, none⟩ = (bxA (kidAt l i) A1 c1 A2 c2)[j]?) := fun j hj => (HB.out.cell (p := ⟨kb, ko + i * 11 + j, none⟩) hkb).trans (hat j hj)
        have HK1 := Lib.hid (hk1.next HB.out)
        obtain ⟨few, hfew⟩ : ∃ few : Bool, decide (cntB (kidAt l i) ≤ 200) = few := ⟨_, rfl⟩
        have HF := Lib.hid hfew
        clear hat hk1 hi1' hl1 hfew
        go_wp2_with ((with_reducible refine at_load 25 ?_); go_loud (refine wpList_load_all i1 11 hi1 hy1 _ Try.underlying25 rfl rfl HC.out ?_))
        refine (rfew_any (kidAt l i) 200 A1 c1 A2 c2 _ (by decide) HF.out HK1.out).mono ?_
        rintro e w2 ⟨rfl, hb2⟩
        have HB2 := Lib.hid (below_next HB.out hb2)
        clear hb2
        cases few with
        | false =>
          go_wp2
          go_ret
          exact ⟨ret_bool (is_false HR.out fun h => by have := h.2 i hlt; have := of_decide_eq_false HF.out; omega), HB2.out⟩
        | true =>
          go_wp2_with fail
          go_roundw
          case rel => exact ⟨i + 1, by omega, by go_num, fun k hk => by
            rcases Nat.lt_succ_iff_lt_or_eq.1 hk with h | rfl
            · exact HALL.out k h
            · exact of_decide_eq_true HF.out, HB2.out⟩
          case measure => simp [intOf]; omega
      · obtain rfl : i = l.length := by omega
        go_wp2
        go_ret
        exact ⟨ret_bool (is_true HR.out ⟨h200, HALL.out⟩), HB.out⟩
  · go_enter Try.func11, Try.ntmps11
    go_wp2
    go_ret
    exact ⟨ret_bool (is_false HR.out fun h => h200 h.1), Below.refl _ _⟩
/-- All blocks but two are as they were. -/
structure Off2 (a b : Nat) (W W' : World) : Prop where
  os : W'.os = W.os
  tape : W'.tape = W.tape
  output : W'.output = W.output
  size : W'.heap.size = W.heap.size
  block : ∀ k, k ≠ a → k ≠ b → W'.heap[k]? = W.heap[k]?
theorem Off2.refl (a b : Nat) (W : World) : Off2 a b W W := ⟨rfl, rfl, rfl, rfl, fun _ _ _ => rfl⟩
theorem Off2.set {a b : Nat} {W W' : World} (h : Off2 a b W W') {p : Addr} (hp : p.block = a ∨ p.block = b) (v : Value) : Off2 a b W (W'.setCell p v) := by
  have hb : Below 0 W' (W'.setCell p v) := (Below.refl _ _).setCell (Nat.zero_le _) _
  exact ⟨hb.os.trans h.os, hb.tape.trans h.tape, hb.output.trans h.output, by rw [← h.size]; simp, fun k h1 h2 => (Below.heap_setCell _ _ _ _ (by omega)).trans (h.block k h1 h2)⟩
theorem Off2.below {a b s : Nat} {w W W' : World} (h : Off2 a b W W') (hb : Below s w W) (ha : s ≤ a) (hb2 : s ≤ b) : Below s w W' :=
  ⟨h.os.trans hb.os, h.tape.trans hb.tape, h.output.trans hb.output, by rw [h.size]; exact hb.size, fun k hk => (h.block k (by omega) (by omega)).trans (hb.block k hk)⟩
theorem copied_block {g n : Nat} {e : TypeId} {news : List Value} {A : Option Addr} {W : World} (h : Copied g e news n A W) (hg : g < W.heap.size) : ∃ b, g ≤ b ∧ b < W.heap.size ∧ (0 < n → A = some ⟨b, 0, none⟩ ∧ ∃ cur, W.heap[b]? = some (.cells cur e (0, 0)) ∧ ∀ (j : Nat) (u : Value), news[j]? = some u → cur[j]? = some u) := by
  by_cases h0 : 0 < n
  · obtain ⟨b, cur, rfl, h2, h3, h4⟩ := h h0
    exact ⟨b, h2, (Array.getElem?_eq_some_iff.1 h3).1, fun _ => ⟨rfl, cur, h3, h4⟩⟩
  · exact ⟨g, Nat.le_refl _, hg, fun h => absurd h h0⟩
/-- Two rows of which numbers are changed; all else is as it was. -/
structure Rw (bF bO nF nO : Nat) (W8 W : World) : Prop where
  off : Off2 bF bO W8 W
  nums : 0 < nF → ∃ cur, W.heap[bF]? = some (.cells cur 3 (0, 0)) ∧ ∀ k, k < nF → ∃ z : Int, cur[k]? = some (.int .i64 z)
  boxes : 0 < nO → ∃ cur, W.heap[bO]? = some (.cells cur 25 (0, 0)) ∧ ∀ k, k < nO → ∃ z : Int, cur[k * 11 + 3]? = some (.int .i64 z)
theorem Rw.num {bF bO nF nO : Nat} {W8 W : World} (h : Rw bF bO nF nO W8 W) (hne : bF ≠ bO) {k : Nat} (hk : k < nF) : ∃ z : Int, W.cell? ⟨bF, k, none⟩ = some (.int .i64 z) ∧ W.frozen? ⟨bF, k, none⟩ = false ∧ ∀ y : Int, Rw bF bO nF nO W8 (W.setCell ⟨bF, k, none⟩ (.int .i64 y)) := by
  obtain ⟨cur, h1, h2⟩ := h.nums (by omega)
  obtain ⟨z, hz⟩ := h2 k hk
  refine ⟨z, blk_cell h1 k _ hz, blk_free h1 k, fun y => ⟨h.off.set (.inl rfl) _, fun _ => ⟨_, blk_set h1 k _, fun j hj => ?_⟩, fun h0 => ?_⟩⟩
  · by_cases e : j = k
    · subst e
      exact ⟨y, Array.getElem?_setIfInBounds_self_of_lt (Array.getElem?_eq_some_iff.1 hz).1⟩
    · rw [Array.getElem?_setIfInBounds_ne (Ne.symm e)]
      exact h2 j hj
  · obtain ⟨c2, h3, h4⟩ := h.boxes h0
    exact ⟨c2, blk_far h3 (p := ⟨bF, k, none⟩) (Ne.symm hne) _, h4⟩
theorem Rw.box {bF bO nF nO : Nat} {W8 W : World} (h : Rw bF bO nF nO W8 W) (hne : bF ≠ bO) {k : Nat} (hk : k < nO) : ∃ z : Int, W.cell? ⟨bO, k * 11 + 3, none⟩ = some (.int .i64 z) ∧ W.frozen? ⟨bO, k * 11 + 3, none⟩ = false ∧ ∀ y : Int, Rw bF bO nF nO W8 (W.setCell ⟨bO, k * 11 + 3, none⟩ (.int .i64 y)) := by
  obtain ⟨cur, h1, h2⟩ := h.boxes (by omega)
  obtain ⟨z, hz⟩ := h2 k hk
  refine ⟨z, blk_cell h1 _ _ hz, blk_free h1 _, fun y => ⟨h.off.set (.inr rfl) _, fun h0 => ?_, fun _ => ⟨_, blk_set h1 _ _, fun j hj => ?_⟩⟩⟩
  · obtain ⟨c2, h3, h4⟩ := h.nums h0
    exact ⟨c2, blk_far h3 (p := ⟨bO, k * 11 + 3, none⟩) hne _, h4⟩
  · by_cases e : j = k
    · subst e
      exact ⟨y, Array.getElem?_setIfInBounds_self_of_lt (Array.getElem?_eq_some_iff.1 hz).1⟩
    · rw [Array.getElem?_setIfInBounds_ne (by omega)]
      exact h2 j hj
set_option maxRecDepth 100000 in
set_option maxHeartbeats 4000000 in
theorem boxMakes_walk (A : Option Addr) (l : List Bx) (c : Nat) (n0 n1 n2 n3 n4 : Int) (B : Option Addr) (src : List Int) (d : Nat) (w : World) (hl : l.length ≤ lenMax) (hs : src.length ≤ lenMax) (hf : ∀ i, i < l.length → fitB (kidAt l i)) (hK : Kids w 0 w.heap.size A l) (hI : Ints w 0 w.heap.size B src) :
    Calls Try.prog 4 #[.slice A l.length c, .agg #[.int .i64 n0, .int .i64 n1, .int .i64 n2, .int .i64 n3, .int .i64 n4], .slice B src.length d] w fun e w' => e = .returned (.bool true) ∧ Below w.heap.size w w' := by
  obtain ⟨i1, hi1, hy0, hy1, hy2⟩ := info_parts infoBox
  obtain ⟨j0, hj0, hx0, hx1, hx2⟩ := info_parts infoI
  have HL := Lib.hid hl
  have HF := Lib.hid hf
  have HK := Lib.hid (And.intro hK hI)
  have hs' : src.length ≤ 9223372036854775807 := hs
  clear hl hf hK hI hs
  go_enter Try.func4, Try.ntmps4
  go_wp2_with fail
  have HN0 : Hid ((w.alloc (.cells #[.int .i64 n0, .int .i64 n1, .int .i64 n2, .int .i64 n3, .int .i64 n4] 29)).heap[w.heap.size]? = some (.cells #[.int .i64 n0, .int .i64 n1, .int .i64 n2, .int .i64 n3, .int .i64 n4] 29 (0, 0))) := blk_new _ _
  have HB0 := Lib.hid (one_below w (.cells #[.int .i64 n0, .int .i64 n1, .int .i64 n2, .int .i64 n3, .int .i64 n4] 29))
  refine (bawake_any _).mono ?_
  rintro e w1 ⟨rfl, hb1⟩
  have HB1 : Hid (Below w.heap.size w w1) := below_next HB0.out hb1
  have HN1 : Hid (w1.heap[w.heap.size]? = some (.cells #[.int .i64 n0, .int .i64 n1, .int .i64 n2, .int .i64 n3, .int .i64 n4] 29 (0, 0))) := (hb1.block _ (by simp)).trans HN0.out
  clear HN0 HB0 hb1
  go_wp2_with fail
  obtain ⟨r, hr⟩ := bool_of (Tame l)
  have HR := Lib.hid hr
  refine (tame_any l A c w1 HL.out hr (HK.out.1.next HB1.out)).mono ?_
  rintro e w2 ⟨rfl, hb2⟩
  have HB2 : Hid (Below w.heap.size w w2) := below_next HB1.out hb2
  have hsz1 : w.heap.size < w1.heap.size := (Array.getElem?_eq_some_iff.1 HN1.out).1
  have HN2 : Hid (w2.heap[w.heap.size]? = some (.cells #[.int .i64 n0, .int .i64 n1, .int .i64 n2, .int .i64 n3, .int .i64 n4] 29 (0, 0))) := (hb2.block _ hsz1).trans HN1.out
  clear HN1 HB1 hb2 hr hsz1
  cases r with
  | false =>
    go_wp2
    go_ret
    exact ⟨rfl, HB2.out⟩
  | true =>
    have HT : Hid (Tame l) := HR.out.1 rfl
    clear HR
    by_cases hs1 : src.length ≤ 100
    case neg =>
      go_wp2
      go_ret
      exact ⟨rfl, HB2.out⟩
    have hl2 : l.length ≤ 200 := HT.out.1
    obtain ⟨Q, q1, q2, q3, q4⟩ := row_src HK.out.1
    have HQ := Lib.hid (And.intro q1 (And.intro q2 q4))
    have HQ3 := Lib.hid q3
    clear q1 q2 q3 q4
    go_wp2_with (first
      | (at_builtin; go_loud (refine wpList_append_copy rfl (.tmp 24) _ 22 25 rfl i1 _ 11 128 Try.underlying22 hi1 hy0 hy1 hy2 rfl (by decide) rfl rfl (heap_alloc_new _ _) (rowC Q) HQ3.out (HQ.out.2.2 _ (HB2.out.alloc HB2.out.size _)) (rowC_one_cell Q) (by unfold maxLen; omega) (by omega) ?_); intro A3 c3 w3 hcp hb3; have HCP3 := Lib.hid hcp; have HB3 : Hid (Below w2.heap.size w2 w3) := (one_below w2 _).trans hb3; have HS3 : Hid (w2.heap.size + 1 ≤ w3.heap.size) := Lib.hid (by have := hb3.size; rw [World.size_alloc] at this; exact this); have HI3 : Hid (Ints w3 0 w3.heap.size B src) := HK.out.2.next (below_next HB2.out HB3.out); clear hcp hb3)
      | (at_builtin; go_loud (refine wpList_append_copy rfl (.tmp 27) _ 23 3 rfl j0 _ 1 8 Try.underlying23 hj0 hx0 hx1 hx2 rfl (by decide) rfl rfl (heap_alloc_new _ _) (intV src) (by simp [intV]) (ints_src (HI3.out.next (one_below _ _))) (fun u hu => by unfold intV at hu; obtain ⟨x, _, rfl⟩ := List.mem_map.1 hu; rfl) (by unfold maxLen; omega) (by omega) ?_); intro A4 c4 w4 hcp hb4; have HCP4 := Lib.hid hcp; have HB4 : Hid (Below w3.heap.size w3 w4) := (one_below w3 _).trans hb4; have HS4 : Hid (w3.heap.size + 1 ≤ w4.heap.size) := Lib.hid (by have := hb4.size; rw [World.size_alloc] at this; exact this); have HW4 : Hid (Below w2.heap.size w2 w4) := below_next HB3.out HB4.out; have HN4 : Hid (w4.heap[w.heap.size]? = some (.cells #[.int .i64 n0, .int .i64 n1, .int .i64 n2, .int .i64 n3, .int .i64 n4] 29 (0, 0))) := (HW4.out.block _ (Array.getElem?_eq_some_iff.1 HN2.out).1).trans HN2.out; have f0 : w4.cell? ⟨w.heap.size, 0, none⟩ = some (.int .i64 n0) := blk_cell HN4.out 0 _ rfl; have f1 : w4.cell? ⟨w.heap.size, 1, none⟩ = some (.int .i64 n1) := blk_cell HN4.out 1 _ rfl; have f2 : w4.cell? ⟨w.heap.size, 2, none⟩ = some (.int .i64 n2) := blk_cell HN4.out 2 _ rfl; clear hcp hb4))
    have HK4 : Hid (Kids w4 0 w4.heap.size A3 l) := row_copied HQ.out.1 HQ.out.2.1 (below_next HB2.out HW4.out) (by have := HB2.out.size; have := HW4.out.size; omega) (HCP3.out.lowkeep HB4.out)
    refine (list_any n0 n1 n2 l A3 c3 w4 HF.out (by have := HT.out.cnt; omega) HK4.out).mono ?_
    rintro e w5 ⟨⟨A5, c5, rfl, hk5⟩, hb5⟩
    clear f0 f1 f2
    have HB5 := Lib.hid hb5
    have HK5 := Lib.hid hk5
    have HA5 : Hid ((w5.alloc (.cells zeroBox 25)).heap[w5.heap.size]? = some (.cells zeroBox 25 (0, 0))) := blk_new _ _
    clear hb5 hk5
    have HB6 : Hid (Below w5.heap.size w5 ((w5.alloc (.cells zeroBox 25)).setRow w5.heap.size (bxA (listB n0 n1 n2 l) A5 c5 none 0))) := below_setRow (one_below _ _) (Nat.le_refl _) _
    have HD6 : Hid (((w5.alloc (.cells zeroBox 25)).setRow w5.heap.size (bxA (listB n0 n1 n2 l) A5 c5 none 0)).heap[w5.heap.size]? = some (.cells (bxA (listB n0 n1 n2 l) A5 c5 none 0) 25 (0, 0))) := setRow_at HA5.out _
    have HC6 : Hid (∀ j, j < 11 → ((w5.alloc (.cells zeroBox 25)).setRow w5.heap.size (bxA (listB n0 n1 n2 l) A5 c5 none 0)).cell? ⟨w5.heap.size, 0 + j, none⟩ = (bxA (listB n0 n1 n2 l) A5 c5 none 0)[j]?) := fun j _ => by rw [Nat.zero_add]; exact cell_of_row _ _ _ _ _ _ HD6.out
    have HW6 : Hid (Below w4.heap.size w4 ((w5.alloc (.cells zeroBox 25)).setRow w5.heap.size (bxA (listB n0 n1 n2 l) A5 c5 none 0))) := below_next HB5.out HB6.out
    have f3 : ((w5.alloc (.cells zeroBox 25)).setRow w5.heap.size (bxA (listB n0 n1 n2 l) A5 c5 none 0)).cell? ⟨w.heap.size, 3, none⟩ = some (.int .i64 n3) := blk_cell ((HW6.out.block _ (Array.getElem?_eq_some_iff.1 HN4.out).1).trans HN4.out) 3 _ rfl
    go_wp2_with (first
      | ((with_reducible refine at_store 25 ?_); go_loud (refine wpList_store_all i1 11 hi1 hy1 rfl rfl rfl HA5.out (by decide) (bxA_one (listB n0 n1 n2 l) A5 c5 none 0) ?_); rw [row_all _ _ rfl rfl]; change wpList _ _ _ _ _ ((w5.alloc (.cells zeroBox 25)).setRow w5.heap.size (bxA (listB n0 n1 n2 l) A5 c5 none 0)); generalize (w5.alloc (.cells zeroBox 25)).setRow w5.heap.size (bxA (listB n0 n1 n2 l) A5 c5 none 0) = w6 at HB6 HD6 HC6 HW6 f3 ⊢)
      | ((with_reducible refine at_load 25 ?_); go_loud (refine wpList_load_all i1 11 hi1 hy1 _ Try.underlying25 rfl rfl HC6.out ?_)))
    have HI6 : Hid (Ints w6 0 w6.heap.size A4 src) := ((ints_copied HCP4.out).mono (Nat.zero_le _) (Nat.le_refl _)).next HW6.out
    refine (mark_any (listB n0 n1 n2 l) n3 src A5 c5 none 0 A4 c4 w6 (by omega) HI6.out).mono ?_
    rintro e w7 ⟨⟨A7, c7, rfl, hi7⟩, hb7⟩
    have HB7 := Lib.hid hb7
    have HI7 := Lib.hid hi7
    have HA7 : Hid ((w7.alloc (.cells zeroBox 25)).heap[w7.heap.size]? = some (.cells zeroBox 25 (0, 0))) := blk_new _ _
    have HB8 : Hid (Below w7.heap.size w7 ((w7.alloc (.cells zeroBox 25)).setRow w7.heap.size (bxA ((listB n0 n1 n2 l).mark n3 src) A5 c5 A7 c7))) := below_setRow (one_below _ _) (Nat.le_refl _) _
    have HD8 : Hid (((w7.alloc (.cells zeroBox 25)).setRow w7.heap.size (bxA ((listB n0 n1 n2 l).mark n3 src) A5 c5 A7 c7)).heap[w7.heap.size]? = some (.cells (bxA ((listB n0 n1 n2 l).mark n3 src) A5 c5 A7 c7) 25 (0, 0))) := setRow_at HA7.out _
    clear hb7 hi7 f3
    go_wp2_with ((with_reducible refine at_store 25 ?_); go_loud (refine wpList_store_all i1 11 hi1 hy1 rfl rfl rfl HA7.out (by decide) (bxA_one ((listB n0 n1 n2 l).mark n3 src) A5 c5 A7 c7) ?_); rw [row_all _ _ rfl rfl]; change wpList _ _ _ _ _ ((w7.alloc (.cells zeroBox 25)).setRow w7.heap.size (bxA ((listB n0 n1 n2 l).mark n3 src) A5 c5 A7 c7)); generalize (w7.alloc (.cells zeroBox 25)).setRow w7.heap.size (bxA ((listB n0 n1 n2 l).mark n3 src) A5 c5 A7 c7) = w8 at HB8 HD8 ⊢)
    have HW8 : Hid (Below w4.heap.size w4 w8) := below_next HW6.out (below_next HB7.out HB8.out)
    have hs3 := HS3.out
    have hs4 := HS4.out
    obtain ⟨bF, hF1, hF2, hF3⟩ := copied_block HCP4.out (by omega)
    obtain ⟨bO, hO1, hO2, hO3⟩ := copied_block HCP3.out (by omega)
    have hne : bF ≠ bO := by omega
    have HF3 := Lib.hid hF3
    have HO3 := Lib.hid hO3
    have HRW : Hid (Rw bF bO src.length l.length w8 w8) := by
      refine ⟨Off2.refl _ _ _, fun h0 => ?_, fun h0 => ?_⟩
      · obtain ⟨_, cur, h1, h2⟩ := HF3.out h0
        exact ⟨cur, (HW8.out.block bF hF2).trans h1, fun k hk => ⟨lAt src k, h2 k _ (intV_in hk)⟩⟩
      · obtain ⟨_, cur, h1, h2⟩ := HO3.out h0
        have hb : w8.heap[bO]? = w3.heap[bO]? := (HW8.out.block bO (by omega)).trans (HB4.out.block bO hO2)
        refine ⟨cur, hb.trans h1, fun k hk => ?_⟩
        have hq : k < Q.length := by rw [← HQ.out.1, List.length_map] at hk; exact hk
        exact ⟨Q[k].t.w, h2 _ _ ((rowC_at Q k 3 Q[k] (List.getElem?_eq_getElem hq) (by omega)).trans rfl)⟩
    clear hF3 hO3 hs3 hs4
    go_loopw [11] (fun q wr => ∃ i : Nat, i ≤ src.length ∧ q = .int .i64 (i : Int) ∧ Rw bF bO src.length l.length w8 wr) (fun q _ => src.length - (intOf q).toNat)
    case atStart => exact ⟨0, Nat.zero_le _, rfl, HRW.out⟩
    case round =>
      obtain ⟨i, hi, rfl, hrw⟩ := hrel
      rename World => wx
      have HX := Lib.hid hrw
      clear hrw
      by_cases hlt : i < src.length
      · obtain ⟨z, x1, x2, hset⟩ := HX.out.num hne hlt
        obtain ⟨rfl, _⟩ := HF3.out (by omega)
        have HSET := Lib.hid hset
        clear hset
        go_wp2_with fail
        go_roundw
        case rel => exact ⟨i + 1, by omega, by go_num, HSET.out _⟩
        case measure => simp [intOf]; omega
      · obtain rfl : i = src.length := by omega
        go_wp2_with fail
        go_loopw [12] (fun q wy => ∃ i : Nat, i ≤ l.length ∧ q = .int .i64 (i : Int) ∧ Rw bF bO src.length l.length w8 wy) (fun q _ => l.length - (intOf q).toNat)
        case atStart => exact ⟨0, Nat.zero_le _, rfl, HX.out⟩
        case round =>
          obtain ⟨j, hj, rfl, hrw⟩ := hrel
          rename World => wy
          have HY := Lib.hid hrw
          clear hrw
          by_cases hlt : j < l.length
          · obtain ⟨z, x1, x2, hset⟩ := HY.out.box hne hlt
            obtain ⟨rfl, _⟩ := HO3.out (by omega)
            have HSET := Lib.hid hset
            clear hset
            go_wp2_with fail
            go_roundw
            case rel => exact ⟨j + 1, by omega, by go_num, HSET.out _⟩
            case measure => simp [intOf]; omega
          · obtain rfl : j = l.length := by omega
            have HWY : Hid (Below w2.heap.size w2 wy) := HY.out.off.below (below_next HW4.out HW8.out) (by have := HB3.out.size; omega) hO1
            have HNY : Hid (wy.heap[w.heap.size]? = some (.cells #[.int .i64 n0, .int .i64 n1, .int .i64 n2, .int .i64 n3, .int .i64 n4] 29 (0, 0))) := (HWY.out.block _ (Array.getElem?_eq_some_iff.1 HN2.out).1).trans HN2.out
            have f0 : wy.cell? ⟨w.heap.size, 0, none⟩ = some (.int .i64 n0) := blk_cell HNY.out 0 _ rfl
            have f1 : wy.cell? ⟨w.heap.size, 1, none⟩ = some (.int .i64 n1) := blk_cell HNY.out 1 _ rfl
            have f2 : wy.cell? ⟨w.heap.size, 2, none⟩ = some (.int .i64 n2) := blk_cell HNY.out 2 _ rfl
            have HVY : Hid (Below w.heap.size w wy) := below_next HB2.out HWY.out
            have HOLD : Hid (∀ k, w4.heap.size ≤ k → wy.heap[k]? = w8.heap[k]?) := fun k hk => HY.out.off.block k (by omega) (by omega)
            have HD5Y : Hid (wy.heap[w5.heap.size]? = some (.cells (bxA (listB n0 n1 n2 l) A5 c5 none 0) 25 (0, 0))) :=
              (HOLD.out _ HB5.out.size).trans (((below_next HB7.out HB8.out).block _ (Array.getElem?_eq_some_iff.1 HD6.out).1).trans HD6.out)
            have HD7Y : Hid (wy.heap[w7.heap.size]? = some (.cells (bxA ((listB n0 n1 n2 l).mark n3 src) A5 c5 A7 c7) 25 (0, 0))) :=
              (HOLD.out _ (by have := HW6.out.size; have := HB7.out.size; omega)).trans HD8.out
            have HK5Y : Hid (Kids wy 0 wy.heap.size A5 l) := by
              have h1 : Kids w8 w4.heap.size w5.heap.size A5 l := HK5.out.low (below_next HB6.out (below_next HB7.out HB8.out))
              exact (h1.same fun b o hb _ => cell_of_heap (HOLD.out b hb)).mono (Nat.zero_le _) (by rw [HY.out.off.size]; exact (below_next HB6.out (below_next HB7.out HB8.out)).size)
            have HI7Y : Hid (Ints wy 0 wy.heap.size A7 src) := by
              have h1 : Ints w8 w6.heap.size w7.heap.size A7 src := HI7.out.below HB8.out
              exact (h1.same fun b o hb _ => cell_of_heap (HOLD.out b (by have := HW6.out.size; omega))).mono (Nat.zero_le _) (by rw [HY.out.off.size]; exact HB8.out.size)
            have HKY : Hid (Kids wy 0 wy.heap.size A l ∧ Ints wy 0 wy.heap.size B src) := ⟨HK.out.1.next HVY.out, HK.out.2.next HVY.out⟩
            clear HY HOLD HK5 HI7 HD6 HD8 HB5 HB6 HB7 HB8 HA5 HA7 HC6 HW6 HI6 HW8 HF3 HO3 HRW HX HN4 HK4 HS3 HS4 HB3 HB4 HW4 HCP3 HCP4 HI3 HN2 HWY hF1 hF2 hO1 hO2 hne hi hj
            go_wp2_with fail
            refine (rlist_any n0 n1 n2 l A c wy (by omega) HKY.out.1).mono ?_
            rintro e w9 ⟨⟨A9, c9, rfl, hk9⟩, hb9⟩
            clear f0 f1 f2
            have HB9 := Lib.hid hb9
            have HK9 := Lib.hid hk9
            have HA9 : Hid ((w9.alloc (.cells zeroBox 25)).heap[w9.heap.size]? = some (.cells zeroBox 25 (0, 0))) := blk_new _ _
            have HB10 : Hid (Below w9.heap.size w9 ((w9.alloc (.cells zeroBox 25)).setRow w9.heap.size (bxA (listB n0 n1 n2 l) A9 c9 none 0))) := below_setRow (one_below _ _) (Nat.le_refl _) _
            have HD10 : Hid (((w9.alloc (.cells zeroBox 25)).setRow w9.heap.size (bxA (listB n0 n1 n2 l) A9 c9 none 0)).heap[w9.heap.size]? = some (.cells (bxA (listB n0 n1 n2 l) A9 c9 none 0) 25 (0, 0))) := setRow_at HA9.out _
            clear hb9 hk9
            go_wp2_with ((with_reducible refine at_store 25 ?_); go_loud (refine wpList_store_all i1 11 hi1 hy1 rfl rfl rfl HA9.out (by decide) (bxA_one (listB n0 n1 n2 l) A9 c9 none 0) ?_); rw [row_all _ _ rfl rfl]; change wpList _ _ _ _ _ ((w9.alloc (.cells zeroBox 25)).setRow w9.heap.size (bxA (listB n0 n1 n2 l) A9 c9 none 0)); generalize (w9.alloc (.cells zeroBox 25)).setRow w9.heap.size (bxA (listB n0 n1 n2 l) A9 c9 none 0) = w10 at HB10 HD10 ⊢)
            have hlb : (listB n0 n1 n2 l).kids = l ∧ (listB n0 n1 n2 l).src = [] ∧ lens (listB n0 n1 n2 l) ∧ cntB (listB n0 n1 n2 l) = 1 + cntL l := ⟨rfl, rfl, ⟨Nat.zero_le _, Nat.zero_le _, HL.out⟩, cntB_eq _⟩
            generalize listB n0 n1 n2 l = t at HD5Y HD7Y HD10 HB10 hlb ⊢
            have HLB := Lib.hid hlb
            have hbw : Below wy.heap.size wy w10 := below_next HB9.out HB10.out
            have HBW := Lib.hid hbw
            have HBA : Hid (Below w.heap.size w w10) := below_next HVY.out hbw
            have HDN : Hid (w10.heap[w.heap.size]? = some (.cells #[.int .i64 n0, .int .i64 n1, .int .i64 n2, .int .i64 n3, .int .i64 n4] 29 (0, 0))) := (hbw.block _ (Array.getElem?_eq_some_iff.1 HNY.out).1).trans HNY.out
            have HD5 : Hid (w10.heap[w5.heap.size]? = some (.cells (bxA t A5 c5 none 0) 25 (0, 0))) := (hbw.block _ (Array.getElem?_eq_some_iff.1 HD5Y.out).1).trans HD5Y.out
            have HD7 : Hid (w10.heap[w7.heap.size]? = some (.cells (bxA (t.mark n3 src) A5 c5 A7 c7) 25 (0, 0))) := (hbw.block _ (Array.getElem?_eq_some_iff.1 HD7Y.out).1).trans HD7Y.out
            clear hlb hbw HD5Y HD7Y HNY HVY HA9
            have HS : Hid (∀ W', Below w10.heap.size w10 W' → (W'.cell? ⟨w.heap.size, 0, none⟩ = some (.int .i64 n0) ∧ W'.cell? ⟨w.heap.size, 1, none⟩ = some (.int .i64 n1) ∧ W'.cell? ⟨w.heap.size, 2, none⟩ = some (.int .i64 n2) ∧ W'.cell? ⟨w.heap.size, 3, none⟩ = some (.int .i64 n3) ∧ W'.cell? ⟨w.heap.size, 4, none⟩ = some (.int .i64 n4) ∧ W'.cell? ⟨w5.heap.size, 0, none⟩ = some (.int .i64 t.k) ∧ W'.cell? ⟨w5.heap.size, 1, none⟩ = some (.string t.nm) ∧ W'.cell? ⟨w5.heap.size, 2, none⟩ = some (.int .i64 t.sz) ∧ W'.cell? ⟨w5.heap.size, 3, none⟩ = some (.int .i64 t.w) ∧ W'.cell? ⟨w5.heap.size, 4, none⟩ = some (.int .i64 t.h) ∧ W'.cell? ⟨w5.heap.size, 5, none⟩ = some (.int .i64 t.d) ∧ W'.cell? ⟨w5.heap.size, 6, none⟩ = some (.int .i64 t.x) ∧ W'.cell? ⟨w5.heap.size, 7, none⟩ = some (.int .i64 t.y) ∧ W'.cell? ⟨w5.heap.size, 8, none⟩ = some (.slice A5 t.kids.length c5) ∧ W'.cell? ⟨w5.heap.size, 9, none⟩ = some (.int .i64 t.of_) ∧ W'.cell? ⟨w5.heap.size, 10, none⟩ = some (.slice none t.src.length 0) ∧ W'.cell? ⟨w7.heap.size, 0, none⟩ = some (.int .i64 (t.mark n3 src).k) ∧ W'.cell? ⟨w7.heap.size, 1, none⟩ = some (.string (t.mark n3 src).nm) ∧ W'.cell? ⟨w7.heap.size, 2, none⟩ = some (.int .i64 (t.mark n3 src).sz) ∧ W'.cell? ⟨w7.heap.size, 3, none⟩ = some (.int .i64 (t.mark n3 src).w) ∧ W'.cell? ⟨w7.heap.size, 4, none⟩ = some (.int .i64 (t.mark n3 src).h) ∧ W'.cell? ⟨w7.heap.size, 5, none⟩ = some (.int .i64 (t.mark n3 src).d) ∧ W'.cell? ⟨w7.heap.size, 6, none⟩ = some (.int .i64 (t.mark n3 src).x) ∧ W'.cell? ⟨w7.heap.size, 7, none⟩ = some (.int .i64 (t.mark n3 src).y) ∧ W'.cell? ⟨w7.heap.size, 8, none⟩ = some (.slice A5 (t.mark n3 src).kids.length c5) ∧ W'.cell? ⟨w7.heap.size, 9, none⟩ = some (.int .i64 (t.mark n3 src).of_) ∧ W'.cell? ⟨w7.heap.size, 10, none⟩ = some (.slice A7 (t.mark n3 src).src.length c7) ∧ W'.cell? ⟨w9.heap.size, 0, none⟩ = some (.int .i64 t.k) ∧ W'.cell? ⟨w9.heap.size, 1, none⟩ = some (.string t.nm) ∧ W'.cell? ⟨w9.heap.size, 2, none⟩ = some (.int .i64 t.sz) ∧ W'.cell? ⟨w9.heap.size, 3, none⟩ = some (.int .i64 t.w) ∧ W'.cell? ⟨w9.heap.size, 4, none⟩ = some (.int .i64 t.h) ∧ W'.cell? ⟨w9.heap.size, 5, none⟩ = some (.int .i64 t.d) ∧ W'.cell? ⟨w9.heap.size, 6, none⟩ = some (.int .i64 t.x) ∧ W'.cell? ⟨w9.heap.size, 7, none⟩ = some (.int .i64 t.y) ∧ W'.cell? ⟨w9.heap.size, 8, none⟩ = some (.slice A9 t.kids.length c9) ∧ W'.cell? ⟨w9.heap.size, 9, none⟩ = some (.int .i64 t.of_) ∧ W'.cell? ⟨w9.heap.size, 10, none⟩ = some (.slice none t.src.length 0))) := fun W' hb => by
              have hN := (hb.block _ (Array.getElem?_eq_some_iff.1 HDN.out).1).trans HDN.out
              have h5 := (hb.block _ (Array.getElem?_eq_some_iff.1 HD5.out).1).trans HD5.out
              have h7 := (hb.block _ (Array.getElem?_eq_some_iff.1 HD7.out).1).trans HD7.out
              have h9 := (hb.block _ (Array.getElem?_eq_some_iff.1 HD10.out).1).trans HD10.out
              exact ⟨blk_cell hN 0 _ rfl, blk_cell hN 1 _ rfl, blk_cell hN 2 _ rfl, blk_cell hN 3 _ rfl, blk_cell hN 4 _ rfl, blk_cell h5 0 _ rfl, blk_cell h5 1 _ rfl, blk_cell h5 2 _ rfl, blk_cell h5 3 _ rfl, blk_cell h5 4 _ rfl, blk_cell h5 5 _ rfl, blk_cell h5 6 _ rfl, blk_cell h5 7 _ rfl, blk_cell h5 8 _ rfl, blk_cell h5 9 _ rfl, blk_cell h5 10 _ rfl, blk_cell h7 0 _ rfl, blk_cell h7 1 _ rfl, blk_cell h7 2 _ rfl, blk_cell h7 3 _ rfl, blk_cell h7 4 _ rfl, blk_cell h7 5 _ rfl, blk_cell h7 6 _ rfl, blk_cell h7 7 _ rfl, blk_cell h7 8 _ rfl, blk_cell h7 9 _ rfl, blk_cell h7 10 _ rfl, blk_cell h9 0 _ rfl, blk_cell h9 1 _ rfl, blk_cell h9 2 _ rfl, blk_cell h9 3 _ rfl, blk_cell h9 4 _ rfl, blk_cell h9 5 _ rfl, blk_cell h9 6 _ rfl, blk_cell h9 7 _ rfl, blk_cell h9 8 _ rfl, blk_cell h9 9 _ rfl, blk_cell h9 10 _ rfl⟩
            have HKA : Hid (∀ W', Below w10.heap.size w10 W' → Kids W' 0 W'.heap.size A5 t.kids ∧ Kids W' 0 W'.heap.size A9 t.kids ∧ Ints W' 0 W'.heap.size A7 src ∧ Ints W' 0 W'.heap.size B src) := fun W' hb => by
              rw [HLB.out.1]
              have h1 := below_next HBW.out hb
              exact ⟨HK5Y.out.next h1, HK9.out.next (below_next HB10.out hb), HI7Y.out.next h1, HKY.out.2.next h1⟩
            have HQT : Hid (∀ (u v : Bx), u = v → lens u → ∀ A c A' c' B d B' d' W', Kids W' 0 W'.heap.size A u.kids → Ints W' 0 W'.heap.size A' u.src → Kids W' 0 W'.heap.size B u.kids → Ints W' 0 W'.heap.size B' u.src → Calls Try.prog 10 #[.agg (bxA u A c A' c'), .agg (bxA v B d B' d')] W' fun e w' => e = .returned (.bool true) ∧ Below W'.heap.size W' w') := fun u v e hl A c A' c' B d B' d' W' h1 h2 h3 h4 => by
              subst e
              exact requal_any (cntB u) true u u (Nat.le_refl _) hl hl ⟨fun _ => rfl, fun _ => rfl⟩ A c A' c' B d B' d' W' h1 h2 h3 h4
            have hz : ∀ (W' : World), Ints W' 0 W'.heap.size none t.src := fun W' => by rw [HLB.out.2.1]; exact ints_nil _ _ _ _
            have HZ := Lib.hid hz
            clear hz
            have HE1 : Hid (∀ W', Below w10.heap.size w10 W' → Calls Try.prog 10 #[.agg (bxA t A5 c5 none 0), .agg (bxA t A9 c9 none 0)] W' fun e w' => e = .returned (.bool true) ∧ Below W'.heap.size W' w') := fun W' hb =>
              HQT.out t t rfl HLB.out.2.2.1 A5 c5 none 0 A9 c9 none 0 W' (HKA.out W' hb).1 (HZ.out W') (HKA.out W' hb).2.1 (HZ.out W')
            have HLM : Hid (lens (t.mark n3 src)) := ⟨HLB.out.2.2.1.1, hs', HLB.out.2.2.1.2.2⟩
            have HE2 : Hid (∀ Am cm W', Below w10.heap.size w10 W' → Ints W' 0 W'.heap.size Am src → Calls Try.prog 10 #[.agg (bxA (t.mark n3 src) A5 c5 A7 c7), .agg (bxA (t.mark n3 src) A9 c9 Am cm)] W' fun e w' => e = .returned (.bool true) ∧ Below W'.heap.size W' w') := fun Am cm W' hb hi =>
              HQT.out (t.mark n3 src) (t.mark n3 src) rfl HLM.out A5 c5 A7 c7 A9 c9 Am cm W' (HKA.out W' hb).1 (HKA.out W' hb).2.2.1 (HKA.out W' hb).2.1 hi
            have HE3 : Hid (∀ Aa ca Am cm W', Below w10.heap.size w10 W' → Ints W' 0 W'.heap.size Aa src → Ints W' 0 W'.heap.size Am src → Calls Try.prog 10 #[.agg (bxA ((t.mark n3 src).at_ n4 n0) A5 c5 Aa ca), .agg (bxA ((t.mark n3 src).at_ n4 n0) A9 c9 Am cm)] W' fun e w' => e = .returned (.bool true) ∧ Below W'.heap.size W' w') := fun Aa ca Am cm W' hb ha hi =>
              HQT.out ((t.mark n3 src).at_ n4 n0) ((t.mark n3 src).at_ n4 n0) rfl HLM.out A5 c5 Aa ca A9 c9 Am cm W' (HKA.out W' hb).1 ha (HKA.out W' hb).2.1 hi
            have HE4 : Hid (∀ W', Calls Try.prog 10 #[.agg (bxA (ruleB n0 n1 n2) none 0 none 0), .agg (bxA (ruleB' n0 n1 n2) none 0 none 0)] W' fun e w' => e = .returned (.bool true) ∧ Below W'.heap.size W' w') := fun W' =>
              HQT.out (ruleB n0 n1 n2) (ruleB' n0 n1 n2) rfl ⟨Nat.zero_le _, Nat.zero_le _, Nat.zero_le _⟩ none 0 none 0 none 0 none 0 W' (Kids.nil _ _ _ _) (ints_nil _ _ _ _) (Kids.nil _ _ _ _) (ints_nil _ _ _ _)
            have hbd : Below w10.heap.size w10 w10.drew := (Below.refl _ _).drew
            go_region_held3 (fun W => W.cell? ⟨w.heap.size, 0, none⟩ = some (.int .i64 n0) ∧ W.cell? ⟨w.heap.size, 1, none⟩ = some (.int .i64 n1) ∧ W.cell? ⟨w.heap.size, 2, none⟩ = some (.int .i64 n2) ∧ W.cell? ⟨w.heap.size, 3, none⟩ = some (.int .i64 n3) ∧ W.cell? ⟨w.heap.size, 4, none⟩ = some (.int .i64 n4) ∧ W.cell? ⟨w5.heap.size, 0, none⟩ = some (.int .i64 t.k) ∧ W.cell? ⟨w5.heap.size, 1, none⟩ = some (.string t.nm) ∧ W.cell? ⟨w5.heap.size, 2, none⟩ = some (.int .i64 t.sz) ∧ W.cell? ⟨w5.heap.size, 3, none⟩ = some (.int .i64 t.w) ∧ W.cell? ⟨w5.heap.size, 4, none⟩ = some (.int .i64 t.h) ∧ W.cell? ⟨w5.heap.size, 5, none⟩ = some (.int .i64 t.d) ∧ W.cell? ⟨w5.heap.size, 6, none⟩ = some (.int .i64 t.x) ∧ W.cell? ⟨w5.heap.size, 7, none⟩ = some (.int .i64 t.y) ∧ W.cell? ⟨w5.heap.size, 8, none⟩ = some (.slice A5 t.kids.length c5) ∧ W.cell? ⟨w5.heap.size, 9, none⟩ = some (.int .i64 t.of_) ∧ W.cell? ⟨w5.heap.size, 10, none⟩ = some (.slice none t.src.length 0) ∧ W.cell? ⟨w7.heap.size, 0, none⟩ = some (.int .i64 (t.mark n3 src).k) ∧ W.cell? ⟨w7.heap.size, 1, none⟩ = some (.string (t.mark n3 src).nm) ∧ W.cell? ⟨w7.heap.size, 2, none⟩ = some (.int .i64 (t.mark n3 src).sz) ∧ W.cell? ⟨w7.heap.size, 3, none⟩ = some (.int .i64 (t.mark n3 src).w) ∧ W.cell? ⟨w7.heap.size, 4, none⟩ = some (.int .i64 (t.mark n3 src).h) ∧ W.cell? ⟨w7.heap.size, 5, none⟩ = some (.int .i64 (t.mark n3 src).d) ∧ W.cell? ⟨w7.heap.size, 6, none⟩ = some (.int .i64 (t.mark n3 src).x) ∧ W.cell? ⟨w7.heap.size, 7, none⟩ = some (.int .i64 (t.mark n3 src).y) ∧ W.cell? ⟨w7.heap.size, 8, none⟩ = some (.slice A5 (t.mark n3 src).kids.length c5) ∧ W.cell? ⟨w7.heap.size, 9, none⟩ = some (.int .i64 (t.mark n3 src).of_) ∧ W.cell? ⟨w7.heap.size, 10, none⟩ = some (.slice A7 (t.mark n3 src).src.length c7) ∧ W.cell? ⟨w9.heap.size, 0, none⟩ = some (.int .i64 t.k) ∧ W.cell? ⟨w9.heap.size, 1, none⟩ = some (.string t.nm) ∧ W.cell? ⟨w9.heap.size, 2, none⟩ = some (.int .i64 t.sz) ∧ W.cell? ⟨w9.heap.size, 3, none⟩ = some (.int .i64 t.w) ∧ W.cell? ⟨w9.heap.size, 4, none⟩ = some (.int .i64 t.h) ∧ W.cell? ⟨w9.heap.size, 5, none⟩ = some (.int .i64 t.d) ∧ W.cell? ⟨w9.heap.size, 6, none⟩ = some (.int .i64 t.x) ∧ W.cell? ⟨w9.heap.size, 7, none⟩ = some (.int .i64 t.y) ∧ W.cell? ⟨w9.heap.size, 8, none⟩ = some (.slice A9 t.kids.length c9) ∧ W.cell? ⟨w9.heap.size, 9, none⟩ = some (.int .i64 t.of_) ∧ W.cell? ⟨w9.heap.size, 10, none⟩ = some (.slice none t.src.length 0)) (first | exact HS.out _ (by assumption))
              (first
                | (go_at_call 18; refine (rule_any n0 n1 n2 _).mono ?_; rintro e wR ⟨rfl, hbr⟩; have hbR : Below w10.heap.size w10 wR := below_next (by assumption) hbr)
                | (go_at_call 19; refine (rrule_any n0 n1 n2 _).mono ?_; rintro e wS ⟨rfl, hbs⟩; have hbS : Below w10.heap.size w10 wS := below_next (by assumption) hbs)
                | (go_at_call 16; refine (at_any (t.mark n3 src) n4 n0 A5 c5 A7 c7 _ (by show src.length ≤ _; omega) (HKA.out _ (by assumption)).2.2.1).mono ?_; rintro e wA ⟨⟨Aa, ca, rfl, hia⟩, hba⟩; have hbA : Below w10.heap.size w10 wA := below_next (by assumption) hba)
                | (go_at_call 15; have hia2 := hia; refine (rmark_any t n3 src A9 c9 none 0 B d _ (by omega) (HKA.out _ (by assumption)).2.2.2).mono ?_; rintro e wN ⟨⟨An, cn, rfl, hin⟩, hbn⟩; have hbN : Below w10.heap.size w10 wN := below_next (by assumption) hbn; have hia3 := (hia.mono (Nat.zero_le _) (Nat.le_refl _)).next hbn)
                | (go_at_call 15; refine (rmark_any t n3 src A9 c9 none 0 B d _ (by omega) (HKA.out _ (by assumption)).2.2.2).mono ?_; rintro e wM ⟨⟨Am, cm, rfl, him⟩, hbm⟩; have hbM : Below w10.heap.size w10 wM := below_next (by assumption) hbm)
                | (go_at_call 17; refine (rat_any (t.mark n3 src) n4 n0 A9 c9 An cn _).mono ?_; rintro e wT ⟨rfl, hbt⟩; have hbT : Below w10.heap.size w10 wT := below_next (by assumption) hbt; have hia4 := hia3.next hbt; have hin4 := (hin.mono (Nat.zero_le _) (Nat.le_refl _)).next hbt)
                | (go_at_call 10; with_reducible refine (HE4.out _).mono ?_; rintro e wE ⟨rfl, hbe⟩; have hbE : Below w10.heap.size w10 wE := below_next (by assumption) hbe)
                | (go_at_call 10; with_reducible refine (HE3.out Aa ca An cn _ (by assumption) hia4 hin4).mono ?_; rintro e wE ⟨rfl, hbe⟩; have hbE : Below w10.heap.size w10 wE := below_next (by assumption) hbe)
                | (go_at_call 10; with_reducible refine (HE2.out Am cm _ (by assumption) (him.mono (Nat.zero_le _) (Nat.le_refl _))).mono ?_; rintro e wE ⟨rfl, hbe⟩; have hbE : Below w10.heap.size w10 wE := below_next (by assumption) hbe)
                | (go_at_call 10; with_reducible refine (HE1.out _ (by assumption)).mono ?_; rintro e wE ⟨rfl, hbe⟩; have hbE : Below w10.heap.size w10 wE := below_next (by assumption) hbe))
            have hfin := below_next HBA.out hbE
            have HFIN := Lib.hid hfin
            clear hfin
            go_wp2
            go_ret
            exact ⟨rfl, HFIN.out⟩
end Go.Proofs.Ytlgnghehgcoccaa
