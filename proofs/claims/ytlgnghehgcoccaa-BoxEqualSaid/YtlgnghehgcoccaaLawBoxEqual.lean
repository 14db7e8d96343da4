/- The law BoxEqual: the walk. -/
import Derived.Test.YtlgnghehgcoccaaBoxBEq
import Derived.Test.YtlgnghehgcoccaaBoxAwake
import Derived.Test.YtlgnghehgcoccaaBoxCnt
namespace Go.Proofs.Ytlgnghehgcoccaa
open Go.RowKit
set_option maxRecDepth 100000 in
set_option maxHeartbeats 4000000 in
theorem boxEqual_walk (a : Bx) (A : Option Addr) (c : Nat) (A' : Option Addr) (c' : Nat) (b : Bx) (B : Option Addr) (d : Nat) (B' : Option Addr) (d' : Nat) (w : World) (hla : lens a) (hKA : Kids w 0 w.heap.size A a.kids) (hIA : Ints w 0 w.heap.size A' a.src) (hlb : lens b) (hKB : Kids w 0 w.heap.size B b.kids) (hIB : Ints w 0 w.heap.size B' b.src) :
    Calls Try.prog 3 #[.agg (bxA a A c A' c'), .agg (bxA b B d B' d')] w fun e w' => e = .returned (.bool true) ∧ Below w.heap.size w w' := by
  have HLA := Lib.hid hla
  have HLB := Lib.hid hlb
  have HK := Lib.hid (And.intro hKA (And.intro hIA (And.intro hKB hIB)))
  clear hla hKA hIA hlb hKB hIB
  go_enter Try.func3, Try.ntmps3
  go_wp2_with fail
  obtain ⟨d0, d1, hsz, hb⟩ := two_boxes w (bxA a A c A' c') (bxA b B d B' d') 25 25
  generalize ((w.alloc (.cells (bxA a A c A' c') 25)).alloc (.cells (bxA b B d B' d') 25)) = W0 at d0 d1 hsz hb ⊢
  have HB0 := Lib.hid hb
  have HD0 := Lib.hid d0
  have HD1 := Lib.hid d1
  have HSZ := Lib.hid hsz
  clear d0 d1 hsz hb
  refine (bawake_any _).mono ?_
  rintro e w1 ⟨rfl, hb1⟩
  have HB1 : Hid (Below w.heap.size w w1) := below_next HB0.out hb1
  have HX : Hid (∀ X, Below w1.heap.size w1 X → X.heap[w.heap.size]? = some (.cells (bxA a A c A' c') 25 (0, 0)) ∧ X.heap[w.heap.size + 1]? = some (.cells (bxA b B d B' d') 25 (0, 0))) := fun X hX => by
    have h := below_next hb1 hX
    have := HSZ.out
    exact ⟨(h.block _ (by omega)).trans HD0.out, (h.block _ (by omega)).trans HD1.out⟩
  clear hb1
  go_wp2_with fail
  have HKV : Hid (∀ v : Bel w1.heap.size w1, Kids v.v 0 v.v.heap.size A a.kids ∧ Ints v.v 0 v.v.heap.size A' a.src ∧ Kids v.v 0 v.v.heap.size B b.kids ∧ Ints v.v 0 v.v.heap.size B' b.src) := fun v => by
    have hb := below_next HB1.out v.h
    exact ⟨HK.out.1.next hb, HK.out.2.1.next hb, HK.out.2.2.1.next hb, HK.out.2.2.2.next hb⟩
  have za0 : ∀ v : Bel w1.heap.size w1, v.v.cell? ⟨w.heap.size, 0, none⟩ = some (.int .i64 a.k) := fun v => blk_cell (HX.out v.v v.h).1 0 _ rfl
  have za1 : ∀ v : Bel w1.heap.size w1, v.v.cell? ⟨w.heap.size, 1, none⟩ = some (.string a.nm) := fun v => blk_cell (HX.out v.v v.h).1 1 _ rfl
  have za2 : ∀ v : Bel w1.heap.size w1, v.v.cell? ⟨w.heap.size, 2, none⟩ = some (.int .i64 a.sz) := fun v => blk_cell (HX.out v.v v.h).1 2 _ rfl
  have za3 : ∀ v : Bel w1.heap.size w1, v.v.cell? ⟨w.heap.size, 3, none⟩ = some (.int .i64 a.w) := fun v => blk_cell (HX.out v.v v.h).1 3 _ rfl
  have za4 : ∀ v : Bel w1.heap.size w1, v.v.cell? ⟨w.heap.size, 4, none⟩ = some (.int .i64 a.h) := fun v => blk_cell (HX.out v.v v.h).1 4 _ rfl
  have za5 : ∀ v : Bel w1.heap.size w1, v.v.cell? ⟨w.heap.size, 5, none⟩ = some (.int .i64 a.d) := fun v => blk_cell (HX.out v.v v.h).1 5 _ rfl
  have za6 : ∀ v : Bel w1.heap.size w1, v.v.cell? ⟨w.heap.size, 6, none⟩ = some (.int .i64 a.x) := fun v => blk_cell (HX.out v.v v.h).1 6 _ rfl
  have za7 : ∀ v : Bel w1.heap.size w1, v.v.cell? ⟨w.heap.size, 7, none⟩ = some (.int .i64 a.y) := fun v => blk_cell (HX.out v.v v.h).1 7 _ rfl
  have za8 : ∀ v : Bel w1.heap.size w1, v.v.cell? ⟨w.heap.size, 8, none⟩ = some (.slice A a.kids.length c) := fun v => blk_cell (HX.out v.v v.h).1 8 _ rfl
  have za9 : ∀ v : Bel w1.heap.size w1, v.v.cell? ⟨w.heap.size, 9, none⟩ = some (.int .i64 a.of_) := fun v => blk_cell (HX.out v.v v.h).1 9 _ rfl
  have za10 : ∀ v : Bel w1.heap.size w1, v.v.cell? ⟨w.heap.size, 10, none⟩ = some (.slice A' a.src.length c') := fun v => blk_cell (HX.out v.v v.h).1 10 _ rfl
  have zb0 : ∀ v : Bel w1.heap.size w1, v.v.cell? ⟨w.heap.size + 1, 0, none⟩ = some (.int .i64 b.k) := fun v => blk_cell (HX.out v.v v.h).2 0 _ rfl
  have zb1 : ∀ v : Bel w1.heap.size w1, v.v.cell? ⟨w.heap.size + 1, 1, none⟩ = some (.string b.nm) := fun v => blk_cell (HX.out v.v v.h).2 1 _ rfl
  have zb2 : ∀ v : Bel w1.heap.size w1, v.v.cell? ⟨w.heap.size + 1, 2, none⟩ = some (.int .i64 b.sz) := fun v => blk_cell (HX.out v.v v.h).2 2 _ rfl
  have zb3 : ∀ v : Bel w1.heap.size w1, v.v.cell? ⟨w.heap.size + 1, 3, none⟩ = some (.int .i64 b.w) := fun v => blk_cell (HX.out v.v v.h).2 3 _ rfl
  have zb4 : ∀ v : Bel w1.heap.size w1, v.v.cell? ⟨w.heap.size + 1, 4, none⟩ = some (.int .i64 b.h) := fun v => blk_cell (HX.out v.v v.h).2 4 _ rfl
  have zb5 : ∀ v : Bel w1.heap.size w1, v.v.cell? ⟨w.heap.size + 1, 5, none⟩ = some (.int .i64 b.d) := fun v => blk_cell (HX.out v.v v.h).2 5 _ rfl
  have zb6 : ∀ v : Bel w1.heap.size w1, v.v.cell? ⟨w.heap.size + 1, 6, none⟩ = some (.int .i64 b.x) := fun v => blk_cell (HX.out v.v v.h).2 6 _ rfl
  have zb7 : ∀ v : Bel w1.heap.size w1, v.v.cell? ⟨w.heap.size + 1, 7, none⟩ = some (.int .i64 b.y) := fun v => blk_cell (HX.out v.v v.h).2 7 _ rfl
  have zb8 : ∀ v : Bel w1.heap.size w1, v.v.cell? ⟨w.heap.size + 1, 8, none⟩ = some (.slice B b.kids.length d) := fun v => blk_cell (HX.out v.v v.h).2 8 _ rfl
  have zb9 : ∀ v : Bel w1.heap.size w1, v.v.cell? ⟨w.heap.size + 1, 9, none⟩ = some (.int .i64 b.of_) := fun v => blk_cell (HX.out v.v v.h).2 9 _ rfl
  have zb10 : ∀ v : Bel w1.heap.size w1, v.v.cell? ⟨w.heap.size + 1, 10, none⟩ = some (.slice B' b.src.length d') := fun v => blk_cell (HX.out v.v v.h).2 10 _ rfl
  obtain ⟨fa, hfa⟩ : ∃ few : Bool, decide (cntB a ≤ 300) = few := ⟨_, rfl⟩
  obtain ⟨fb, hfb⟩ : ∃ few : Bool, decide (cntB b ≤ 300) = few := ⟨_, rfl⟩
  have HFA : Hid (∀ v : Bel w1.heap.size w1, Calls Try.prog 8 #[.agg (bxA a A c A' c'), .int .i64 300] v.v fun e w' => e = .returned (.bool fa) ∧ ∃ v' : Bel w1.heap.size w1, w' = v'.v) := fun v => by
    refine (rfew_any a 300 A c A' c' v.v (by decide) hfa (HKV.out v).1).mono ?_
    rintro e w' ⟨he, hb⟩
    exact ⟨he, ⟨w', below_next v.h hb⟩, rfl⟩
  have HFB : Hid (∀ v : Bel w1.heap.size w1, Calls Try.prog 8 #[.agg (bxA b B d B' d'), .int .i64 300] v.v fun e w' => e = .returned (.bool fb) ∧ ∃ v' : Bel w1.heap.size w1, w' = v'.v) := fun v => by
    refine (rfew_any b 300 B d B' d' v.v (by decide) hfb (HKV.out v).2.2.1).mono ?_
    rintro e w' ⟨he, hb⟩
    exact ⟨he, ⟨w', below_next v.h hb⟩, rfl⟩
  have HCA : Hid (fa = true → cntB a ≤ 300) := fun h => by subst h; exact of_decide_eq_true hfa
  clear hfa hfb
  cases fa with
  | false =>
    refine wp_region_bel (by kernel_rfl) (by kernel_rfl) ?_
    repeat (go_big_quiet_step (first | (go_at_call 8; first | with_reducible exact HFA.out _ | with_reducible exact HFB.out _)))
    refine wpQuiet_nil ?_
    rintro W2 ⟨v, rfl⟩
    go_wp2
    go_ret
    exact ⟨rfl, below_next HB1.out v.h⟩
  | true =>
  cases fb with
  | false =>
    refine wp_region_bel (by kernel_rfl) (by kernel_rfl) ?_
    repeat (go_big_quiet_step (first | (go_at_call 8; first | with_reducible exact HFA.out _ | with_reducible exact HFB.out _)))
    refine wpQuiet_nil ?_
    rintro W2 ⟨v, rfl⟩
    go_wp2
    go_ret
    exact ⟨rfl, below_next HB1.out v.h⟩
  | true =>
    have hca : cntB a ≤ 300 := HCA.out rfl
    obtain ⟨r, hr⟩ := bool_of (a = b)
    have HE1 : Hid (∀ v : Bel w1.heap.size w1, Calls Try.prog 9 #[.agg (bxA a A c A' c'), .agg (bxA b B d B' d')] v.v fun e w' => e = .returned (.bool r) ∧ ∃ v' : Bel w1.heap.size w1, w' = v'.v) := fun v => by
      obtain ⟨h1, h2, h3, h4⟩ := HKV.out v
      refine (bequal_any a b A c A' c' B d B' d' v.v HLA.out HLB.out (by omega) hr h1 h2 h3 h4).mono ?_
      rintro e w' ⟨he, hb⟩
      exact ⟨he, ⟨w', below_next v.h hb⟩, rfl⟩
    have HE2 : Hid (∀ v : Bel w1.heap.size w1, Calls Try.prog 10 #[.agg (bxA a A c A' c'), .agg (bxA b B d B' d')] v.v fun e w' => e = .returned (.bool r) ∧ ∃ v' : Bel w1.heap.size w1, w' = v'.v) := fun v => by
      obtain ⟨h1, h2, h3, h4⟩ := HKV.out v
      refine (requal_any (cntB a) r a b (Nat.le_refl _) HLA.out HLB.out hr A c A' c' B d B' d' v.v h1 h2 h3 h4).mono ?_
      rintro e w' ⟨he, hb⟩
      exact ⟨he, ⟨w', below_next v.h hb⟩, rfl⟩
    have HE3 : Hid (∀ v : Bel w1.heap.size w1, Calls Try.prog 9 #[.agg (bxA a A c A' c'), .agg (bxA a A c A' c')] v.v fun e w' => e = .returned (.bool true) ∧ ∃ v' : Bel w1.heap.size w1, w' = v'.v) := fun v => by
      obtain ⟨h1, h2, h3, h4⟩ := HKV.out v
      refine (bequal_any a a A c A' c' A c A' c' v.v HLA.out HLA.out (by omega) (yes_iff rfl) h1 h2 h1 h2).mono ?_
      rintro e w' ⟨he, hb⟩
      exact ⟨he, ⟨w', below_next v.h hb⟩, rfl⟩
    clear hr hca
    cases r with
    | false =>
      refine wp_region_bel (by kernel_rfl) (by kernel_rfl) ?_
      repeat (go_big_quiet_step (first | (go_at_call 8; first | with_reducible exact HFA.out _ | with_reducible exact HFB.out _) | (go_at_call 9; first | with_reducible exact HE1.out _ | with_reducible exact HE3.out _) | (go_at_call 10; exact HE2.out _)))
      refine wpQuiet_nil ?_
      rintro W2 ⟨v, rfl⟩
      go_wp2
      go_ret
      exact ⟨rfl, below_next HB1.out v.h⟩
    | true =>
      refine wp_region_bel (by kernel_rfl) (by kernel_rfl) ?_
      repeat (go_big_quiet_step (first | (go_at_call 8; first | with_reducible exact HFA.out _ | with_reducible exact HFB.out _) | (go_at_call 9; first | with_reducible exact HE1.out _ | with_reducible exact HE3.out _) | (go_at_call 10; exact HE2.out _)))
      refine wpQuiet_nil ?_
      rintro W2 ⟨v, rfl⟩
      go_wp2
      go_ret
      exact ⟨rfl, below_next HB1.out v.h⟩
end Go.Proofs.Ytlgnghehgcoccaa
