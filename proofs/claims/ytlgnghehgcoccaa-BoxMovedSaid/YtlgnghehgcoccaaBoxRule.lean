/- Rule; Extent. -/
import Derived.Test.YtlgnghehgcoccaaBoxMake
namespace Go.Proofs.Ytlgnghehgcoccaa
open Go.RowKit
def ruleB (a b c : Int) : Bx := .mk 2 ⟨#[]⟩ 0 a b c 0 0 [] 0 []
set_option maxRecDepth 100000 in
set_option maxHeartbeats 1000000 in
theorem rule_any (a b c : Int) (w : World) :
    Calls Try.prog 18 #[.int .i64 a, .int .i64 b, .int .i64 c] w fun e w' => e = .returned (.agg (bxA (ruleB a b c) none 0 none 0)) ∧ Below w.heap.size w w' := by
  have d0 := blk_new w (.cells zeroBox 25)
  have hb := one_below w (.cells zeroBox 25)
  have D0 := Lib.hid d0
  have HB := Lib.hid hb
  clear d0 hb
  obtain ⟨i0, hi0, hz0, hz1, hz2⟩ := info_parts infoBox
  go_enter Try.func18, Try.ntmps18
  go_wp2_with ((with_reducible refine at_store 25 ?_); go_loud (refine wpList_store_all i0 11 hi0 hz1 rfl rfl rfl D0.out (by decide) (bxA_one (ruleB a b c) none 0 none 0) ?_); rw [row_all _ _ rfl rfl])
  refine bodyPost_ret (results_cell_all rfl _ i0 11 hi0 hz1 _ Try.underlying25 rfl rfl (fun j _ => by rw [Nat.zero_add]; exact cell_setRow_same _ _ _ _ _ _ _ D0.out)) rfl ?_
  exact ⟨rfl, below_setRow HB.out (Nat.le_refl _) _⟩
/-! ### Extent -/
abbrev wrp (z : Int) : Int := wrap64 z
abbrev E4 := Int × Int × Int × Int
def ext1 (t : Bx) : E4 := (t.x, wrp (t.x + t.w), wrp (t.y + t.h), wrp (t.d - t.y))
def join4 (a b : E4) : E4 := (if b.1 < a.1 then b.1 else a.1, if a.2.1 < b.2.1 then b.2.1 else a.2.1, if a.2.2.1 < b.2.2.1 then b.2.2.1 else a.2.2.1, if a.2.2.2 < b.2.2.2 then b.2.2.2 else a.2.2.2)
def extN (l : List Bx) : Nat → E4
  | 0 => (0, 0, 0, 0)
  | 1 => ext1 (kidAt l 0)
  | n + 2 => join4 (extN l (n + 1)) (ext1 (kidAt l (n + 1)))
theorem extN_succ (l : List Bx) {n : Nat} (h : 0 < n) : extN l (n + 1) = join4 (extN l n) (ext1 (kidAt l n)) := by
  cases n with
  | zero => omega
  | succ n => rfl
set_option maxRecDepth 100000 in
set_option maxHeartbeats 2000000 in
theorem extent_any (A : Option Addr) (c : Nat) (l : List Bx) (w : World) (hl : l.length ≤ 1000000) (hK : Kids w 0 w.heap.size A l) :
    Calls Try.prog 22 #[.slice A l.length c] w fun e w' => e = .returned (.tuple #[.int .i64 (extN l l.length).1, .int .i64 (extN l l.length).2.1, .int .i64 (extN l l.length).2.2.1, .int .i64 (extN l l.length).2.2.2]) ∧ Below w.heap.size w w' := by
  obtain ⟨i0, hi0, hz0, hz1, hz2⟩ := info_parts infoBox
  have HK := Lib.hid hK
  clear hK
  go_enter Try.func22, Try.ntmps22
  go_wp2_with fail
  go_loopw [10, 2, 3, 4, 5] (fun v x1 x2 x3 x4 wr => ∃ n : Nat, n ≤ l.length ∧ v = .int .i64 (n : Int) ∧ x1 = .int .i64 (extN l n).1 ∧ x2 = .int .i64 (extN l n).2.1 ∧ x3 = .int .i64 (extN l n).2.2.1 ∧ x4 = .int .i64 (extN l n).2.2.2 ∧ Below w.heap.size w wr) (fun v _ _ _ _ _ => l.length - (intOf v).toNat)
  case atStart => exact ⟨0, Nat.zero_le _, rfl, rfl, rfl, rfl, rfl, Below.refl _ _⟩
  case round =>
    obtain ⟨n, hn, rfl, rfl, rfl, rfl, rfl, hbw⟩ := hrel
    by_cases hlt : n < l.length
    · obtain ⟨b, off, A1, c1, A2, c2, rfl, _, hb, hat, _, _, _⟩ := HK.out.at hlt
      have hs := hbw.size
      have HC : Hid (∀ j, j < 11 → wr.cell? ⟨b, off + n * 11 + j, none⟩ = (bxA (kidAt l n) A1 c1 A2 c2)[j]?) := fun j hj =>
        (hbw.cell (p := ⟨b, _, none⟩) hb).trans (hat j hj)
      have D0 := Lib.hid (blk_new wr (.cells zeroBox 25))
      have HBW := Lib.hid hbw
      have D1 : Hid (((wr.alloc (.cells zeroBox 25)).setRow wr.heap.size (bxA (kidAt l n) A1 c1 A2 c2)).heap[wr.heap.size]? = some (.cells (bxA (kidAt l n) A1 c1 A2 c2) 25 (0, 0))) := setRow_heap _ _ _ _ _ _ D0.out
      have HB1 : Hid (Below w.heap.size w ((wr.alloc (.cells zeroBox 25)).setRow wr.heap.size (bxA (kidAt l n) A1 c1 A2 c2))) := below_setRow (hbw.trans ((one_below wr (.cells zeroBox 25)).mono hs)) hs _
      generalize hu : kidAt l n = u at HC D1 HB1 hat
      clear hat hbw
      have hge : IntKind.i64.wrap ((n : Int) + 1) = ((n + 1 : Nat) : Int) := by rw [IntWalk.i64_in _ (by omega)]; rfl
      by_cases h0 : n = 0
      · subst h0
        have HU := Lib.hid hu
        rw [Nat.zero_mul, Nat.add_zero] at HC
        clear hu
        go_wp2_with (first
          | ((with_reducible refine at_load 25 ?_); go_loud (refine wpList_load_all i0 11 hi0 hz1 _ Try.underlying25 rfl rfl HC.out ?_))
          | ((with_reducible refine at_store 25 ?_); go_loud (refine wpList_store_all i0 11 hi0 hz1 rfl rfl rfl D0.out (by decide) (bxA_one u A1 c1 A2 c2) ?_); rw [row_all _ _ rfl rfl]))
        have k3 := blk_cell D1.out 3 (.int .i64 u.w) rfl
        have k4 := blk_cell D1.out 4 (.int .i64 u.h) rfl
        have k5 := blk_cell D1.out 5 (.int .i64 u.d) rfl
        have k6 := blk_cell D1.out 6 (.int .i64 u.x) rfl
        have k7 := blk_cell D1.out 7 (.int .i64 u.y) rfl
        clear D0 HC
        generalize ((wr.alloc (.cells zeroBox 25)).setRow wr.heap.size (bxA u A1 c1 A2 c2)) = W1 at k3 k4 k5 k6 k7 HB1 D1 ⊢
        go_quiet (fail)
        go_wp2_with fail
        go_roundw
        case rel => exact ⟨1, by omega, rfl, by rw [extN, HU.out]; rfl, by rw [extN, HU.out]; rfl, by rw [extN, HU.out]; rfl, by rw [extN, HU.out]; rfl, below_drewN HB1.out _⟩
        case measure => simp [intOf]; omega
      · have HH := Lib.hid h0
        have HU := Lib.hid hu
        clear hu
        go_wp2_with (first
          | ((with_reducible refine at_load 25 ?_); go_loud (refine wpList_load_all i0 11 hi0 hz1 _ Try.underlying25 rfl rfl HC.out ?_))
          | ((with_reducible refine at_store 25 ?_); go_loud (refine wpList_store_all i0 11 hi0 hz1 rfl rfl rfl D0.out (by decide) (bxA_one u A1 c1 A2 c2) ?_); rw [row_all _ _ rfl rfl]))
        have k3 := blk_cell D1.out 3 (.int .i64 u.w) rfl
        have k4 := blk_cell D1.out 4 (.int .i64 u.h) rfl
        have k5 := blk_cell D1.out 5 (.int .i64 u.d) rfl
        have k6 := blk_cell D1.out 6 (.int .i64 u.x) rfl
        have k7 := blk_cell D1.out 7 (.int .i64 u.y) rfl
        clear D0 HC
        generalize ((wr.alloc (.cells zeroBox 25)).setRow wr.heap.size (bxA u A1 c1 A2 c2)) = W1 at k3 k4 k5 k6 k7 HB1 D1 ⊢
        go_quiet (fail)
        generalize hm1 : (if u.x < (extN l n).1 then u.x else (extN l n).1) = m1
        generalize hm2 : (if (extN l n).2.1 < wrap64 (u.x + u.w) then wrap64 (u.x + u.w) else (extN l n).2.1) = m2
        have M1 := Lib.hid hm1
        have M2 := Lib.hid hm2
        clear hm1 hm2
        go_wp2_with fail
        go_quiet (fail)
        generalize hm3 : (if (extN l n).2.2.1 < wrap64 (u.y + u.h) then wrap64 (u.y + u.h) else (extN l n).2.2.1) = m3
        generalize hm4 : (if (extN l n).2.2.2 < wrap64 (u.d - u.y) then wrap64 (u.d - u.y) else (extN l n).2.2.2) = m4
        have HJ : Hid (join4 (extN l n) (ext1 u) = (m1, m2, m3, m4)) := by rw [← hm3, ← hm4, ← M1.out, ← M2.out]; rfl
        clear hm3 hm4
        go_wp2_with fail
        go_roundw
        case rel => exact ⟨n + 1, by omega, by go_num, by rw [extN_succ l (Nat.pos_of_ne_zero HH.out), HU.out, HJ.out], by rw [extN_succ l (Nat.pos_of_ne_zero HH.out), HU.out, HJ.out], by rw [extN_succ l (Nat.pos_of_ne_zero HH.out), HU.out, HJ.out], by rw [extN_succ l (Nat.pos_of_ne_zero HH.out), HU.out, HJ.out], below_drewN HB1.out _⟩
        case measure => simp [intOf]; omega
    · obtain rfl : n = l.length := by omega
      have HBW := Lib.hid hbw
      clear hbw
      go_wp2
      refine bodyPost_ret (v := .tuple #[.int .i64 (extN l l.length).1, .int .i64 (extN l l.length).2.1, .int .i64 (extN l l.length).2.2.1, .int .i64 (extN l l.length).2.2.2]) (by simp [results, Try.results22, go_sem]) rfl ?_
      exact ⟨rfl, HBW.out⟩
end Go.Proofs.Ytlgnghehgcoccaa
