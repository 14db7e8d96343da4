/- paragraph.extend returns the best tail from a piece on. -/
import Derived.Test.YtkamffjncndabaaBrkSeq
import Derived.Test.YtkamffjncndabaaBrkBetter
import Derived.Test.YtkamffjncndabaaRoundQuiet
namespace Go.Proofs.Ytkamffjncndabaa
open Go.RowKit
attribute [local go_sem] Oper.semAt_some
theorem plines_stops (F : Fence) (n : Nat) (hF : F = Fence.wide) (hn : 1 ≤ n) (lo n₀ i cap : Nat) (A : Option Addr) (ps : List Pc) (wd ind : Int) (hi : i < ps.length) (hv : validB ps = true) (hf : fitsB wd ind = true) (w : World) (hn₀ : n₀ ≤ lo)
    (bP : w.heap[lo]? = some (.cells #[.slice A ps.length cap, .int .i64 wd, .int .i64 ind] 67 (0, 0))) (bI : Boxed w (lo + 1) 3 (.int .i64 (i : Int))) (bW : Boxed w (lo + 2) 3 (.int .i64 (widAt wd ind i))) (hP : Pcs w n₀ A ps) :
    SeqStopsK F n Try.prog 48 #[.pointer (some ⟨lo + 1, 0, none⟩), .pointer (some ⟨lo, 0, none⟩), .pointer (some ⟨lo + 2, 0, none⟩)] (fun x : LEnd (gG ps wd ind) i ps.length => #[.int .i64 (x.val : Int), .int .i64 (cC ps wd ind i x.val)]) (Keep n₀ lo (lo + 3))
      (fun ys => ys.map Subtype.val = legsL (gG ps wd ind) i (ps.length - i)) (fun _ => True) (ps.length - i) w := fun l J Jx W hW hJ _ hY h0 =>
  plines1_in F n hF hn l lo n₀ i cap A ps wd ind hi hv hf J Jx hn₀ W hJ hY ((hW.block lo (Array.getElem?_eq_some_iff.1 bP).1).trans bP) ((hW.block _ bI.lt).trans bI) ((hW.block _ bW.lt).trans bW)
    (hP.below (hW.mono (by have := bI.lt; omega))) h0
/-- The best tail so far. -/
def bestF (n : Nat) (C : Nat → Nat → Int) (T : Nat → Tl) (i : Nat) (l : List Nat) : Tl :=
  l.foldl (fun b j => if (T j).th = true then better n b ⟨true, C i j + (T j).dm, j⟩ else b) noTl
theorem bestF_snoc (n : Nat) (C : Nat → Nat → Int) (T : Nat → Tl) (i : Nat) (l : List Nat) (j : Nat) :
    bestF n C T i (l ++ [j]) = if (T j).th = true then better n (bestF n C T i l) ⟨true, C i j + (T j).dm, j⟩ else bestF n C T i l := by
  unfold bestF
  rw [List.foldl_append]
  rfl
theorem bestF_legs (n : Nat) (C : Nat → Nat → Int) (G : Nat → Nat → Bool) (T : Nat → Tl) (i : Nat) : ∀ c : Nat, bestF n C T i (legsL G i c) = ext n C G T i c
  | 0 => rfl
  | c + 1 => by
    have ih := bestF_legs n C G T i c
    unfold legsL ext
    by_cases hg : G i (i + 1 + c) = true
    · rw [if_pos hg, bestF_snoc, ih, hg, Bool.true_and]
    · rw [if_neg hg, ih, if_neg (by simp [hg])]
def TB (T : Nat → Tl) (n : Nat) : Prop := ∀ j, j ≤ n → -1000000000000 ≤ (T j).dm ∧ (T j).dm ≤ 1000000000000
theorem keepsFrom_below {B : Nat} {W V : World} (h : Below W.heap.size W V) : KeepsFrom B W V :=
  ⟨h.size, fun k o _ ho _ => (h.block k (Array.getElem?_eq_some_iff.1 ho).1).trans ho⟩
/-- A world in which nothing below a mark has changed. -/
structure Bel (b : Nat) (W : World) where
  v : World
  h : Below b W v
instance {b : Nat} {W : World} : Nonempty (Bel b W) := ⟨⟨W, Below.refl _ _⟩⟩
/-- The cells of a tail. -/
def tlC (t : Tl) : Array Value := #[.bool t.th, .int .i64 t.dm, .int .i64 (t.en : Int)]
theorem heap_from {β : Type} (b B : Nat) (cs : Array Value) (t : TypeId) : OwnFrom B (fun (_ : β) (W : World) => W.heap[b]? = some (.cells cs t (0, 0))) := fun _ W W' row h hg hr => by
  refine (hg.block b (Array.getElem?_eq_some_iff.1 h).1 (fun e => ?_)).trans h
  obtain ⟨_, o, ho, hc⟩ := hr b e.symm
  rw [h] at ho
  cases ho
  cases hc

set_option maxRecDepth 100000 in
set_option maxHeartbeats 4000000 in
theorem extend_nat (A : Option Addr) (cap : Nat) (ps : List Pc) (wd ind : Int) (i : Nat) (A2 : Option Addr) (cap2 : Nat) (T : Nat → Tl) (w : World) (hi : i < ps.length) (hv : validB ps = true) (hf : fitsB wd ind = true) (hP : Pcs w w.heap.size A ps) (hT : Tls w w.heap.size A2 ps.length T) (hTB : TB T ps.length) :
    Calls Try.prog 37 #[.agg #[.slice A ps.length cap, .int .i64 wd, .int .i64 ind], .int .i64 (i : Int), .slice A2 (ps.length + 1) cap2] w fun e w' =>
      e = .returned (tlV (ext ps.length (cC ps wd ind) (gG ps wd ind) T i (ps.length - i))) ∧ Below w.heap.size w w' := by
  have hff := fitsB_iff.1 hf
  have h64 := (validB_iff.1 hv).1.2
  refine (callsIn_wide (n := 4)).1 ?_
  obtain ⟨F, hF⟩ : ∃ F, F = Fence.wide := ⟨_, rfl⟩
  have hro : F.round = none := by rw [hF]; rfl
  have hfn : ∀ k, F.fn k := fun k => by rw [hF]; trivial
  rw [← hF]
  have HF := Lib.hid hF
  clear hF
  refine callsIn_of_wp_marks Try.func37 rfl (hfn _) ?_ hro
  simp only [Try.ntmps37, List.size_toArray, List.length_cons, List.length_nil, Nat.reduceAdd, Nat.reduceSub, Array.replicate_succ, Array.replicate_zero, List.push_toArray, List.append_toArray, List.nil_append, List.cons_append]
  gi_wp2_with (gi_at_call 43; refine (plines_in F (4 - 1) HF.out _ _ _ _ _ i _ hff.1 hff.2.1 hff.2.2.1 hff.2.2.2).mono ?_; rintro e w' ⟨rfl, rfl⟩)
  obtain ⟨s, hs⟩ : ∃ s, s = w.heap.size := ⟨_, rfl⟩
  have HS := Lib.hid hs
  obtain ⟨W0, hW0⟩ : ∃ W0, W0 = ((((w.alloc (.cells #[.slice A ps.length cap, .int .i64 wd, .int .i64 ind] 67)).alloc (.cells #[.slice A2 (ps.length + 1) cap2] 68)).alloc (.cells #[.bool false, .int .i64 0, .int .i64 0] 70)).alloc (.cells #[.bool false, .int .i64 0, .int .i64 0] 70)) := ⟨_, rfl⟩
  obtain ⟨W1, hW1⟩ : ∃ W1, W1 = ((W0.alloc (.cells #[.slice A ps.length cap, .int .i64 wd, .int .i64 ind] 67)).alloc (.cells #[.int .i64 (i : Int)] 3)).alloc (.cells #[.int .i64 (widAt wd ind i)] 3) := ⟨_, rfl⟩
  have k0 := boxes4 w (.cells #[.slice A ps.length cap, .int .i64 wd, .int .i64 ind] 67) (.cells #[.slice A2 (ps.length + 1) cap2] 68) (.cells #[.bool false, .int .i64 0, .int .i64 0] 70) (.cells #[.bool false, .int .i64 0, .int .i64 0] 70)
  rw [← hW0, ← hs] at k0
  obtain ⟨⟨b0, b1, b2, b3⟩, hs0, hB0⟩ := k0
  have k1 := boxes3 W0 (.cells #[.slice A ps.length cap, .int .i64 wd, .int .i64 ind] 67) (.cells #[.int .i64 (i : Int)] 3) (.cells #[.int .i64 (widAt wd ind i)] 3)
  rw [← hW1, hs0] at k1
  obtain ⟨⟨b4, b5, b6⟩, hs1, hB1⟩ := k1
  have hB : Below s w W1 := hB0.trans (hB1.mono (by omega))
  have up : ∀ k, k < s + 4 → W1.heap[k]? = W0.heap[k]? := hB1.block
  have c0 := (up s (by omega)).trans b0
  have c1 := (up (s + 1) (by omega)).trans b1
  have c2 := (up (s + 2) (by omega)).trans b2
  have c3 := (up (s + 3) (by omega)).trans b3
  have HV := Lib.hid hv
  have HP1 : Hid (Pcs W1 s A ps) := by rw [hs]; exact hP.below (by rw [← hs]; exact hB)
  have HTw : Hid (Tls w s A2 ps.length T) := by rw [hs]; exact hT
  have hst : SeqStopsK F (4 - 1) Try.prog 48 #[.pointer (some ⟨s + 5, 0, none⟩), .pointer (some ⟨s + 4, 0, none⟩), .pointer (some ⟨s + 6, 0, none⟩)] _ _ _ _ _ W1 :=
    plines_stops F (4 - 1) HF.out (by omega) (s + 4) s i cap A ps wd ind hi hv hf W1 (by omega) b4 b5 b6 HP1.out
  have HST := Lib.hid hst
  clear hst hv
  rw [← hW0, ← hW1, ← hs]
  simp only [Nat.add_assoc, Nat.reduceAdd]
  clear hW0 hW1 hs hP hT b0 b1 b2 b3 up
  have hBw : Below w.heap.size w W1 := by rw [← HS.out]; exact hB
  refine wpIn_rangeFunc_ownG hro (by omega) (gf := 48) (lb := #[.pointer (some ⟨s + 5, 0, none⟩), .pointer (some ⟨s + 4, 0, none⟩), .pointer (some ⟨s + 6, 0, none⟩)]) rfl (hfn _) (enters_of Try.func48 (by kernel_rfl) rfl)
    HST.out (fun a b => a.trans b) (Keep.put (by omega) (by omega)) (Below.refl _ _) (fun _ => rfl)
    (fun pre W => ((W.heap[s]? = some (.cells #[.slice A ps.length cap, .int .i64 wd, .int .i64 ind] 67 (0, 0)) ∧ W.heap[s + 1]? = some (.cells #[.slice A2 (ps.length + 1) cap2] 68 (0, 0))) ∧
        (W.heap[s + 2]? = some (.cells #[.bool false, .int .i64 0, .int .i64 0] 70 (0, 0)) ∧ W.heap[s + 3]? = some (.cells (tlC (bestF ps.length (cC ps wd ind) T i (pre.map Subtype.val))) 70 (0, 0)))) ∧ Below s W1 W)
    (fun _ _ _ => False)
    (OwnFrom.and (OwnFrom.and (OwnFrom.and (heap_from _ _ _ _) (heap_from _ _ _ _)) (OwnFrom.and (heap_from _ _ _ _) (fun pre => heap_from (β := List (LEnd (gG ps wd ind) i ps.length)) _ _ _ _ pre))) (ownFrom_below (by omega) (by omega)))
    (fun _ _ _ _ _ hs _ _ => hs)
    ⟨⟨⟨c0, c1⟩, ⟨c2, c3⟩⟩, Below.refl _ _⟩
    (fun x => { tmps := #[.agg #[.slice A ps.length cap, .int .i64 wd, .int .i64 ind], .int .i64 (i : Int), .slice A2 (ps.length + 1) cap2, .pointer (some ⟨s, 0, none⟩), undef, .pointer (some ⟨s + 1, 0, none⟩), .pointer (some ⟨s + 2, 0, none⟩), .pointer (some ⟨s + 3, 0, none⟩),
      .int .i64 (x.val : Int), .int .i64 (cC ps wd ind i x.val), .agg #[.slice A ps.length cap, .int .i64 wd, .int .i64 ind], .int .i64 (i : Int), .func (.func 48) #[] #[.pointer (some ⟨s + 5, 0, none⟩), .pointer (some ⟨s + 4, 0, none⟩), .pointer (some ⟨s + 6, 0, none⟩)],
      .int .i64 (x.val : Int), .int .i64 (cC ps wd ind i x.val), undef, undef, undef, undef, undef, undef, undef, undef, undef, undef, undef, undef, undef, undef, undef, undef, undef, undef, undef, undef], defers := [] }) ?assign ?body ?done ?stop
  case assign =>
    intro l x W K hK
    gi_wp2
    exact hK
  case body =>
    rintro l pre x W ⟨⟨⟨h0, h1⟩, h2, h3⟩, hB1W⟩ _
    have hBW : Below s w W := hB.trans hB1W
    have hsz := hB1W.size
    rw [hs1] at hsz
    have HB1 := Lib.hid hB1W
    clear hB1W
    obtain ⟨j, hj1, hj2, hj3⟩ := x
    obtain ⟨bT, oT, rfl, hbT, hcT⟩ := HTw.out
    obtain ⟨t0, t1, _⟩ := hcT j hj2
    replace t0 := (hBW.cell (p := ⟨bT, oT + j * 3, none⟩) hbT).trans t0
    replace t1 := (hBW.cell (p := ⟨bT, oT + j * 3 + 1, none⟩) hbT).trans t1
    have hdm := hTB j hj2
    have hC := demV_bound HV.out (i := i) (j := j) hi hj2 (widAt_bound hf i).1 (widAt_bound hf i).2
    have HSN := Lib.hid (bestF_snoc ps.length (cC ps wd ind) T i (pre.map Subtype.val) j)
    have x1 := blk_cell h1 0 (.slice (some ⟨bT, oT, none⟩) (ps.length + 1) cap2) rfl
    have hlt : s + 3 < W.heap.size := (Array.getElem?_eq_some_iff.1 h3).1
    have H0 := Lib.hid h0
    have H1 := Lib.hid h1
    have H2 := Lib.hid h2
    have H3 := Lib.hid h3
    have HJ3 := Lib.hid hj3
    dsimp only
    cases hth : (T j).th
    · rw [hth] at t0 HSN
      have HTH := Lib.hid hth
      clear hth h0 h1 h2 h3 hcT
      gi_wp2
      refine ⟨KeepsFrom.refl _ _, Keep.refl _ _ _ _, ⟨⟨H0.out, H1.out⟩, H2.out, ?_⟩, HB1.out⟩
      rw [List.map_append]
      show W.heap[s + 3]? = some (.cells (tlC (bestF _ _ _ _ (pre.map Subtype.val ++ [j]))) _ _)
      rw [HSN.out, if_neg (by simp)]
      exact H3.out
    · rw [hth] at t0 HSN
      have HTH := Lib.hid hth
      have f0 := blk_cell h3 0 (.bool (bestF ps.length (cC ps wd ind) T i (pre.map Subtype.val)).th) rfl
      have f1 := blk_cell h3 1 (.int .i64 (bestF ps.length (cC ps wd ind) T i (pre.map Subtype.val)).dm) rfl
      have f2 := blk_cell h3 2 (.int .i64 ((bestF ps.length (cC ps wd ind) T i (pre.map Subtype.val)).en : Int)) rfl
      have p0 := blk_cell h0 0 (.slice A ps.length cap) rfl
      generalize hbst : bestF ps.length (cC ps wd ind) T i (pre.map Subtype.val) = bst at f0 f1 f2 HSN H3
      clear hth h0 h1 h2 h3 hcT hbst
      have hCC : cC ps wd ind i j = demV ps i j (widAt wd ind i) := rfl
      rw [← hCC] at hC
      have s1 : IntKind.i64.wrap (cC ps wd ind i j + (T j).dm) = cC ps wd ind i j + (T j).dm := IntWalk.i64_in _ (by omega)
      clear hCC
      clear c0 c1 c2 c3 b4 b5 b6 hs0 hB0 hB1 HST HP1 hBw hB hff
      have y0 : ∀ v : Bel W.heap.size W, v.v.cell? ⟨bT, oT + j * 3 + 1, none⟩ = some (.int .i64 (T j).dm) := fun v => (v.h.cell (p := ⟨bT, oT + j * 3 + 1, none⟩) (Nat.lt_of_lt_of_le hbT (by have := hBW.size; have := HS.out; omega))).trans t1
      have y1 : ∀ v : Bel W.heap.size W, v.v.cell? ⟨s + 3, 0, none⟩ = some (.bool bst.th) := fun v => (v.h.cell (p := ⟨s + 3, 0, none⟩) hlt).trans f0
      have y2 : ∀ v : Bel W.heap.size W, v.v.cell? ⟨s + 3, 1, none⟩ = some (.int .i64 bst.dm) := fun v => (v.h.cell (p := ⟨s + 3, 1, none⟩) hlt).trans f1
      have y3 : ∀ v : Bel W.heap.size W, v.v.cell? ⟨s + 3, 2, none⟩ = some (.int .i64 (bst.en : Int)) := fun v => (v.h.cell (p := ⟨s + 3, 2, none⟩) hlt).trans f2
      have y4 : ∀ v : Bel W.heap.size W, v.v.cell? ⟨s, 0, none⟩ = some (.slice A ps.length cap) := fun v => (v.h.cell (p := ⟨s, 0, none⟩) (by show s < _; omega)).trans p0
      have y5 : ∀ v : Bel W.heap.size W, v.v.cell? ⟨s + 1, 0, none⟩ = some (.slice (some ⟨bT, oT, none⟩) (ps.length + 1) cap2) := fun v => (v.h.cell (p := ⟨s + 1, 0, none⟩) (by show s + 1 < _; omega)).trans x1
      obtain ⟨rb, hrb⟩ : ∃ r, better ps.length bst ⟨true, cC ps wd ind i j + (T j).dm, j⟩ = r := ⟨_, rfl⟩
      have hcall : ∀ v : Bel W.heap.size W, Calls Try.prog 44 #[.agg #[.bool bst.th, .int .i64 bst.dm, .int .i64 (bst.en : Int)], .agg #[.bool true, .int .i64 (cC ps wd ind i j + (T j).dm), .int .i64 (j : Int)], .int .i64 (ps.length : Int)] v.v
          fun e w'' => e = .returned (.agg #[.bool rb.th, .int .i64 rb.dm, .int .i64 (rb.en : Int)]) ∧ ∃ v : Bel W.heap.size W, w'' = v.v := fun v =>
        (better_nat bst ⟨true, cC ps wd ind i j + (T j).dm, j⟩ ps.length v.v).mono fun e w2 he => ⟨by rw [he.1, hrb]; rfl, ⟨⟨_, v.h.trans (he.2.mono v.h.size)⟩, rfl⟩⟩
      have HCL := Lib.hid hcall
      have HRB := Lib.hid hrb
      clear hcall hrb
      gi_wp2_with fail
      clear t0 hTB
      rw [HF.out]
      refine wpIn_region_round 14 _ (fun W' => ∃ v : Bel W.heap.size W, W' = v.v) (by kernel_rfl) (by kernel_rfl) (by kernel_rfl) rfl ⟨⟨_, (Below.refl _ _).drew⟩, rfl⟩ ?_
      simp only [List.take_succ_cons, List.take_zero]
      repeat (go_big_quiet_step (exact HCL.out _))
      clear y0 y1 y2 y3 y4 y5
      refine wpQuiet_nil ?_
      rintro w' ⟨v, rfl⟩
      have f4 := (v.h.block (s + 3) hlt).trans H3.out
      have g0 := blk_cell f4 0 (.bool bst.th) rfl
      have g1 := blk_cell f4 1 (.int .i64 bst.dm) rfl
      have g2 := blk_cell f4 2 (.int .i64 (bst.en : Int)) rfl
      have z0 := blk_free f4 0
      have z1 := blk_free f4 1
      have z2 := blk_free f4 2
      have H4 := Lib.hid f4
      clear f4 f0 f1 f2
      refine ⟨fun _ _ => trivial, ?_⟩
      rw [Oper.semAt_eq _ _ _ (fun c h => by cases h)]
      obtain ⟨V, hV⟩ : ∃ V, V = v.v := ⟨_, rfl⟩
      rw [← hV] at g0 g1 g2 z0 z1 z2 ⊢
      simp [go_sem, g0, g1, g2, z0, z1, z2, Exit.inBlock]
      subst hV
      refine ⟨(keepsFrom_below v.h).trans (((KeepsOthers.setCell _ _ _).trans ((KeepsOthers.setCell _ _ _).trans (KeepsOthers.setCell _ _ _))).from _), (((Keep.of_below v.h (by omega) (by omega)).setCell (p := ⟨s + 3, 0, none⟩) (by show s ≤ s + 3; omega) (.inl (by show s + 3 < s + 4; omega)) _).setCell (p := ⟨s + 3, 1, none⟩) (by show s ≤ s + 3; omega) (.inl (by show s + 3 < s + 4; omega)) _).setCell (p := ⟨s + 3, 2, none⟩) (by show s ≤ s + 3; omega) (.inl (by show s + 3 < s + 4; omega)) _, ⟨⟨?_, ?_⟩, ?_, ?_⟩, ?_⟩
      · exact blk_far (blk_far (blk_far ((v.h.block s (by omega)).trans H0.out) (by simp) _) (by simp) _) (by simp) _
      · exact blk_far (blk_far (blk_far ((v.h.block (s + 1) (by omega)).trans H1.out) (by simp) _) (by simp) _) (by simp) _
      · exact blk_far (blk_far (blk_far ((v.h.block (s + 2) (by omega)).trans H2.out) (by simp) _) (by simp) _) (by simp) _
      · rw [List.map_append]
        show _ = some (Obj.cells (tlC (bestF _ _ _ _ (pre.map Subtype.val ++ [j]))) _ _)
        rw [HSN.out, if_pos trivial, HRB.out]
        exact blk_set (blk_set (blk_set H4.out 0 (.bool rb.th)) 1 (.int .i64 rb.dm)) 2 (.int .i64 (rb.en : Int))
      · exact (((HB1.out.trans (v.h.mono (by omega))).setCell (p := ⟨s + 3, 0, none⟩) (by simp) _).setCell (p := ⟨s + 3, 1, none⟩) (by simp) _).setCell (p := ⟨s + 3, 2, none⟩) (by simp) _
  case done =>
    rintro D ys W hD hys ⟨⟨⟨h0, h1⟩, h2, h3⟩, hB1W⟩ hK
    have hBW : Below s w W := hB.trans hB1W
    clear hB1W
    have hE : bestF ps.length (cC ps wd ind) T i (ys.map Subtype.val) = ext ps.length (cC ps wd ind) (gG ps wd ind) T i (ps.length - i) := by rw [hys, bestF_legs]
    rw [hE] at h3
    clear hys hE
    obtain ⟨r, hr⟩ : ∃ r, ext ps.length (cC ps wd ind) (gG ps wd ind) T i (ps.length - i) = r := ⟨_, rfl⟩
    rw [hr] at h3
    have HRR := Lib.hid hr
    clear hr
    have f0 : W.cell? ⟨s + 3, 0, none⟩ = some (.bool r.th) := blk_cell h3 0 _ rfl
    have f1 : W.cell? ⟨s + 3, 1, none⟩ = some (.int .i64 r.dm) := blk_cell h3 1 _ rfl
    have f2 : W.cell? ⟨s + 3, 2, none⟩ = some (.int .i64 (r.en : Int)) := blk_cell h3 2 _ rfl
    have g0 : W.cell? ⟨s + 2, 0, none⟩ = some (.bool false) := blk_cell h2 0 _ rfl
    have g1 : W.cell? ⟨s + 2, 1, none⟩ = some (.int .i64 0) := blk_cell h2 1 _ rfl
    have g2 : W.cell? ⟨s + 2, 2, none⟩ = some (.int .i64 0) := blk_cell h2 2 _ rfl
    have z0 := blk_free h2 0
    have z1 := blk_free h2 1
    have z2 := blk_free h2 2
    have HK := Lib.hid hK
    have H2 := Lib.hid h2
    clear hK h0 h1 h2 h3
    gi_wp2
    have hK3 := ((KeepsOthers.setCell W ⟨s + 2, 0, none⟩ (.bool r.th)).trans ((KeepsOthers.setCell _ ⟨s + 2, 1, none⟩ (.int .i64 r.dm)).trans (KeepsOthers.setCell _ ⟨s + 2, 2, none⟩ (.int .i64 (r.en : Int))))).same D _ HK.out rfl
    have hb3 := blk_set (blk_set (blk_set H2.out 0 (.bool r.th)) 1 (.int .i64 r.dm)) 2 (.int .i64 (r.en : Int))
    have hbB : Below s w (((W.setCell ⟨s + 2, 0, none⟩ (.bool r.th)).setCell ⟨s + 2, 1, none⟩ (.int .i64 r.dm)).setCell ⟨s + 2, 2, none⟩ (.int .i64 (r.en : Int))) := ((hBW.setCell (p := ⟨s + 2, 0, none⟩) (by simp) _).setCell (p := ⟨s + 2, 1, none⟩) (by simp) _).setCell (p := ⟨s + 2, 2, none⟩) (by simp) _
    generalize (((W.setCell ⟨s + 2, 0, none⟩ (.bool r.th)).setCell ⟨s + 2, 1, none⟩ (.int .i64 r.dm)).setCell ⟨s + 2, 2, none⟩ (.int .i64 (r.en : Int))) = V at hK3 hb3 hbB ⊢
    have hDs : s + 2 ≠ D := by omega
    have hb4 : (V.putObj D (.deferred none)).heap[s + 2]? = some (.cells #[.bool r.th, .int .i64 r.dm, .int .i64 (r.en : Int)] 70 (0, 0)) := (World.putObj_heap_other hDs).trans hb3
    have q0 := blk_cell hb4 0 (.bool r.th) rfl
    have q1 := blk_cell hb4 1 (.int .i64 r.dm) rfl
    have q2 := blk_cell hb4 2 (.int .i64 (r.en : Int)) rfl
    refine ⟨by simp, .inl ⟨_, _, rfl, run_takeDeferred hK3, ?_⟩⟩
    refine ⟨tlV r, ?_, by rw [HRR.out], ?_⟩
    · simp [results, Try.f37, go_sem, q0, q1, q2, tlV]
    · rw [← HS.out]
      exact hbB.trans (belowK_b (w := W1) (by omega) V D _ _ (by omega) hK3 rfl rfl)
  case stop =>
    rintro D k pre W hD _ h _
    exact h.elim
end Go.Proofs.Ytkamffjncndabaa
