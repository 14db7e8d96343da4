/- demerit.length returns the length of a line. -/
import Derived.Test.YtkamffjncndabaaDemSeq
namespace Go.Proofs.Ytkamffjncndabaa
open Go.RowKit
attribute [local go_sem] Oper.semAt_some
theorem fromB {B : Nat} {W W' : World} (h : Below W.heap.size W W') : KeepsFrom B W W' :=
  ⟨h.size, fun k _ _ hk _ => (h.block k (Array.getElem?_eq_some_iff.1 hk).1).trans hk⟩
/-- A box, whatever happens to blocks that are no cells. -/
theorem boxed_from {β : Type} (b B : Nat) (t : TypeId) (v : Value) : OwnFrom B (fun (_ : β) W => Boxed W b t v) := (boxed_own b t (fun _ => v)).from B
theorem pcs_from {β : Type} {B n₀ : Nat} {A : Option Addr} {ps : List Pc} (hB : n₀ ≤ B) : OwnFrom B (fun (_ : β) W => Pcs W n₀ A ps) := fun _ W W' row h hg hr h0 => by
  obtain ⟨b, off, rfl, hb, hc⟩ := h h0
  have hk : ∀ o, W'.cell? ⟨b, o, none⟩ = W.cell? ⟨b, o, none⟩ := fun o => by
    refine World.cell?_of_block (w := W) ?_
    by_cases hlt : b < W.heap.size
    · exact hg.block b hlt (fun e => by have := (hr b e.symm).1; omega)
    · have hn : W.heap[b]? = none := Array.getElem?_eq_none (by omega)
      have := (hc 0 h0).1
      unfold World.cell? at this
      simp [hn] at this
  exact ⟨b, off, rfl, hb, fun k hkl => ⟨(hk _).trans (hc k hkl).1, (hk _).trans (hc k hkl).2.1, (hk _).trans (hc k hkl).2.2⟩⟩

set_option maxHeartbeats 1000000 in
theorem lengths_in (F : Fence) (n : Nat) (h5 : F.fn 47) (hro : F.round = none) (a : Option Addr) (len cap : Nat) (i : Int) (w : World) :
    CallsIn F n Try.prog 47 #[.slice a len cap, .int .i64 i] w fun e w' => e = .returned (.func (.func 50) #[] #[.pointer (some ⟨w.heap.size + 1, 0, none⟩), .pointer (some ⟨w.heap.size, 0, none⟩)]) ∧ w' = (w.alloc (.cells #[.slice a len cap] 22)).alloc (.cells #[.int .i64 i] 3) := by
  refine callsIn_of_wp Try.func47 rfl h5 ?_ hro
  simp only [Try.ntmps47, List.size_toArray, List.length_cons, List.length_nil, Nat.reduceAdd, Nat.reduceSub, Array.replicate_succ, Array.replicate_zero, List.push_toArray, List.append_toArray, List.nil_append, List.cons_append]
  gi_wp2
  go_ret
  exact ⟨rfl, rfl⟩

theorem lengths_stops (F : Fence) (n : Nat) (h7 : F.fn 50) (hro : F.round = none) (hn : 1 ≤ n) (lo n₀ i cap N : Nat) (A : Option Addr) (ps : List Pc) (hN : N = ps.length - i) (hi : i < ps.length) (hm : ps.length ≤ 64) (hok : allOk ps = true)
    (w : World) (hn₀ : n₀ ≤ w.heap.size) (bS : Boxed w lo 22 (.slice A ps.length cap)) (bI : Boxed w (lo + 1) 3 (.int .i64 (i : Int))) (hP : Pcs w n₀ A ps) :
    SeqStopsK F n Try.prog 50 #[.pointer (some ⟨lo + 1, 0, none⟩), .pointer (some ⟨lo, 0, none⟩)] (fun x : Fin N => #[.int .i64 ((i : Int) + (x.val : Int) + 1), .int .i64 (lenR ps i (x.val + 1))]) (Keep n₀ lo (lo + 2))
      (fun ys => ys.map Fin.val = List.range N) (fun pre => ∃ k, k < N ∧ pre.map Fin.val = List.range (k + 1)) N w := fun l J Jx W hW _ _ hY h0 =>
  lengths1_in F n h7 hro hn l lo n₀ i cap N A ps hN hi hm hok J Jx hY W ((hW.block lo bS.lt).trans bS) ((hW.block _ bI.lt).trans bI) (hP.below (hW.mono hn₀)) h0

set_option maxRecDepth 100000 in
set_option maxHeartbeats 2000000 in
theorem length_nat (A : Option Addr) (c : Nat) (ps : List Pc) (i j : Nat) (w : World) (hi : i < j) (hj : j ≤ ps.length) (hv : validB ps = true) (hP : Pcs w w.heap.size A ps) :
    Calls Try.prog 42 #[.slice A ps.length c, .int .i64 (i : Int), .int .i64 (j : Int)] w fun e w' => e = .returned (.int .i64 (lenL ps i j)) ∧ Below w.heap.size w w' := by
  have hv' := validB_iff.1 hv
  refine (callsIn_wide (n := 4)).1 ?_
  obtain ⟨F, hF⟩ : ∃ F, F = Fence.wide := ⟨_, rfl⟩
  have hro : F.round = none := by rw [hF]; rfl
  have hfn : ∀ k, F.fn k := fun k => by rw [hF]; trivial
  rw [← hF]
  clear hF
  refine callsIn_of_wp_marks Try.func42 rfl (hfn _) ?_ hro
  simp only [Try.ntmps42, List.size_toArray, List.length_cons, List.length_nil, Nat.reduceAdd, Nat.reduceSub, Array.replicate_succ, Array.replicate_zero, List.push_toArray, List.append_toArray, List.nil_append, List.cons_append]
  gi_wp2_with (gi_at_call 47; refine (lengths_in F (4 - 1) (hfn _) hro _ _ _ _ _).mono ?_; rintro e w' ⟨rfl, rfl⟩)
  have bJ := Boxed.new w 3 (.int .i64 (j : Int))
  have bR := Boxed.new (w.alloc (.cells #[.int .i64 (j : Int)] 3)) 3 (.int .i64 0)
  have bS := Boxed.new ((w.alloc (.cells #[.int .i64 (j : Int)] 3)).alloc (.cells #[.int .i64 0] 3)) 22 (.slice A ps.length c)
  have bI := Boxed.new (((w.alloc (.cells #[.int .i64 (j : Int)] 3)).alloc (.cells #[.int .i64 0] 3)).alloc (.cells #[.slice A ps.length c] 22)) 3 (.int .i64 (i : Int))
  simp only [World.size_alloc] at bR bS bI
  have hB0 : Below w.heap.size w ((((w.alloc (.cells #[.int .i64 (j : Int)] 3)).alloc (.cells #[.int .i64 0] 3)).alloc (.cells #[.slice A ps.length c] 22)).alloc (.cells #[.int .i64 (i : Int)] 3)) :=
    ((((Below.refl _ w).alloc (Nat.le_refl _) _).alloc (by simp) _).alloc (by simp; omega) _).alloc (by simp; omega) _
  have bJ0 := ((bJ.alloc (.cells #[.int .i64 0] 3)).alloc (.cells #[.slice A ps.length c] 22)).alloc (.cells #[.int .i64 (i : Int)] 3)
  have bR0 := (bR.alloc (.cells #[.slice A ps.length c] 22)).alloc (.cells #[.int .i64 (i : Int)] 3)
  have bS0 := bS.alloc (.cells #[.int .i64 (i : Int)] 3)
  refine wpIn_rangeFunc_ownG hro (by omega) (gf := 50) (lb := #[.pointer (some ⟨w.heap.size + 3, 0, none⟩), .pointer (some ⟨w.heap.size + 2, 0, none⟩)]) rfl (hfn _) (enters_of Try.func50 (by kernel_rfl) rfl)
    (lengths_stops F (4 - 1) (hfn _) hro (by omega) (w.heap.size + 2) w.heap.size i c (ps.length - i) A ps rfl (by omega) hv'.1.2 hv'.2 _ (by simp; omega) bS0 bI (hP.below hB0)) (fun a b => a.trans b) (Keep.put (by simp; omega) (by simp)) (Below.refl _ _) (fun _ => rfl)
    (fun pre W => (∀ x ∈ pre, x.val ≠ j - i - 1) ∧ (Boxed W w.heap.size 3 (.int .i64 (j : Int)) ∧ Boxed W (w.heap.size + 1) 3 (.int .i64 0)) ∧ Below w.heap.size w W)
    (fun k _ W => k = .ret ∧ Boxed W (w.heap.size + 1) 3 (.int .i64 (lenL ps i j)) ∧ Below w.heap.size w W)
    (OwnFrom.and (ownFrom_pure _ _) (OwnFrom.and (OwnFrom.and (boxed_from _ _ _ _) (boxed_from _ _ _ _)) (ownFrom_below (Nat.le_refl _) (by simp; omega))))
    (fun k => OwnFrom.and (ownFrom_pure _ (fun _ => k = .ret)) (OwnFrom.and (boxed_from _ _ _ _) (ownFrom_below (Nat.le_refl _) (by simp; omega))))
    ⟨by simp, ⟨bJ0, bR0⟩, hB0⟩
    (fun x => { tmps := #[.slice A ps.length c, .int .i64 (i : Int), .int .i64 (j : Int), undef, undef, .pointer (some ⟨w.heap.size, 0, none⟩), .pointer (some ⟨w.heap.size + 1, 0, none⟩), .int .i64 ((i : Int) + (x.val : Int) + 1), .int .i64 (lenR ps i (x.val + 1)), .slice A ps.length c, .int .i64 (i : Int), .func (.func 50) #[] #[.pointer (some ⟨w.heap.size + 3, 0, none⟩), .pointer (some ⟨w.heap.size + 2, 0, none⟩)], .int .i64 ((i : Int) + (x.val : Int) + 1), .int .i64 (lenR ps i (x.val + 1)), undef, undef, undef, undef], defers := [] }) ?assign ?body ?done ?stop
  case assign =>
    intro l x W K hK
    gi_wp2
    exact hK
  case body =>
    rintro l pre x W ⟨hp, ⟨bj, br⟩, hB⟩ _
    have ej := bj.cell
    have er := br.cell
    have fr := br.frozen
    by_cases hx : x.val = j - i - 1
    · have ht : ((i : Int) + (x.val : Int) + 1 == (j : Int)) = true := by rw [beq_iff_eq]; omega
      gi_wp2
      refine ⟨(KeepsOthers.setCell _ _ _).from _, ⟨rfl, ?_, hB.setCell (p := ⟨w.heap.size + 1, 0, none⟩) (by simp) _⟩⟩
      have e : lenL ps i j = lenR ps i (j - i - 1 + 1) := by unfold lenL; rw [show j - i - 1 + 1 = j - i from by omega]
      rw [e]
      exact br.set _
    · have ht : ((i : Int) + (x.val : Int) + 1 == (j : Int)) = false := by rw [beq_eq_false_iff_ne]; omega
      gi_wp2
      exact ⟨KeepsFrom.refl _ _, Keep.refl _ _ _ _, fun y hy => by rcases List.mem_append.1 hy with h | h; exact hp y h; simp at h; rw [h]; exact hx, ⟨bj, br⟩, hB⟩
  case done =>
    rintro D ys W hD hys ⟨hne, _, _⟩ hK
    exfalso
    have hmem : j - i - 1 ∈ ys.map Fin.val := by rw [hys, List.mem_range]; omega
    obtain ⟨y, hy, hyv⟩ := List.mem_map.1 hmem
    exact hne y hy hyv
  case stop =>
    rintro D k pre W hD _ ⟨rfl, br, hB⟩ hK
    gi_wp2
    refine ⟨by simp, .inl ⟨_, _, rfl, run_takeDeferred hK, ?_⟩⟩
    have hc5 := cell_kept br.cell (grownBy_putObj' _ D (.deferred none)) (fun r e => by cases e; exact ⟨_, hK, rfl⟩)
    refine ⟨.int .i64 (lenL ps i j), ?_, rfl, hB.trans (belowK_b (w := w) (Nat.le_refl _) W D _ _ (by simp at hD; omega) hK rfl rfl)⟩
    simp [results, Try.f42, go_sem, hc5]

theorem length_any (A : Option Addr) (c : Nat) (ps : List Pc) (i j : Int) (w : World) (h0 : 0 ≤ i) (hi : i < j) (hj : j ≤ (ps.length : Int)) (hv : validB ps = true) (hP : Pcs w w.heap.size A ps) :
    Calls Try.prog 42 #[.slice A ps.length c, .int .i64 i, .int .i64 j] w fun e w' => e = .returned (.int .i64 (lenL ps i.toNat j.toNat)) ∧ Below w.heap.size w w' := by
  obtain ⟨a, rfl⟩ := Int.eq_ofNat_of_zero_le h0
  obtain ⟨b, rfl⟩ := Int.eq_ofNat_of_zero_le (show 0 ≤ j by omega)
  simp only [Int.toNat_natCast]
  exact length_nat A c ps a b w (by omega) (by omega) hv hP
end Go.Proofs.Ytkamffjncndabaa
