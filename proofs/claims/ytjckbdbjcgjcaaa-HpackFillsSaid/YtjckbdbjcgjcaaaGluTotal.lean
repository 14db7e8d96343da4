/- total: the sum of the parts of a range over a function. -/
import Derived.Test.YtjckbdbjcgjcaaaGluSeq
namespace Go.Proofs.Ytjckbdbjcgjcaaa.Gu
open Go.RowKit
attribute [local go_sem] Oper.semAt_some
theorem sum_snoc {α : Type} (f : α → Int) (pre : List α) (x : α) : ((pre ++ [x]).map f).sum = (pre.map f).sum + f x := by simp
theorem sum_bound {α : Type} {f : α → Int} {M : Int} (h : ∀ x, 0 ≤ f x ∧ f x ≤ M) : ∀ pre : List α, 0 ≤ (pre.map f).sum ∧ (pre.map f).sum ≤ M * (pre.length : Int)
  | [] => by simp
  | x :: pre => by
    have := sum_bound h pre
    have := h x
    have e : M * (((x :: pre).length : Nat) : Int) = M * (pre.length : Int) + M := by rw [List.length_cons, show ((pre.length + 1 : Nat) : Int) = (pre.length : Int) + 1 by omega, Int.mul_add, Int.mul_one]
    rw [e, List.map_cons, List.sum_cons]
    omega
theorem pick_sumN (l : List Gl) (o : Int) : ∀ c, ((pickO l o c).map (stAt l)).sum = sumN (stO l o) c
  | 0 => rfl
  | c + 1 => by
    have ih := pick_sumN l o c
    by_cases h : odAt l c = o
    · have e : stO l o c = stAt l c := by unfold stO; rw [if_pos h]
      rw [pick_yes h, sum_snoc, ih, ← e]; rfl
    · have e : stO l o c = 0 := by unfold stO; rw [if_neg h]
      rw [pick_no h, ih]
      show _ = sumN (stO l o) c + stO l o c
      rw [e]; omega
theorem pick_sum (l : List Gl) (o : Int) : ((pickO l o l.length).map (stAt l)).sum = strV l o := pick_sumN l o _
theorem all_sumN (l : List Gl) : ∀ c, ((List.range c).map (shAt l)).sum = sumN (shAt l) c
  | 0 => rfl
  | c + 1 => by rw [List.range_succ, sum_snoc, all_sumN l c]; rfl
theorem all_sum (l : List Gl) : ((List.range l.length).map (shAt l)).sum = shrV l := all_sumN l _
theorem fromB {B : Nat} {W W' : World} (h : Below W.heap.size W W') : KeepsFrom B W W' :=
  ⟨h.size, fun k _ _ hk _ => (h.block k (Array.getElem?_eq_some_iff.1 hk).1).trans hk⟩
set_option maxRecDepth 100000 in
set_option maxHeartbeats 2000000 in
theorem total_str (lo n₀ cap : Nat) (A : Option Addr) (l : List Gl) (o : Int) (w : World) (hv : VG l) (hn₀ : n₀ ≤ lo) (bS : Boxed w lo 23 (.slice A l.length cap)) (bO : Boxed w (lo + 1) 3 (.int .i64 o)) (hP : Gls w n₀ A l) :
    Calls Try.prog 70 #[.func (.func 72) #[] #[.pointer (some ⟨lo, 0, none⟩), .pointer (some ⟨lo + 1, 0, none⟩)]] w fun e w' => e = .returned (.int .i64 (strV l o)) ∧ Below w.heap.size w w' := by
  refine (callsIn_wide (n := 4)).1 ?_
  obtain ⟨F, hF⟩ : ∃ F, F = Fence.wide := ⟨_, rfl⟩
  have hro : F.round = none := by rw [hF]; rfl
  have hfn : ∀ k, F.fn k := fun k => by rw [hF]; trivial
  rw [← hF]
  have HF := Lib.hid hF
  have HVG := Lib.hid hv
  clear hF
  have hlen := hv.1
  have hlo := bO.lt
  have hrange : ∀ x : OEl l o, 0 ≤ stAt l x.val ∧ stAt l x.val ≤ 1048576 := fun x => (fun k hk => by have := hv.2 k hk; unfold okG at this; omega : ∀ k, k < l.length → 0 ≤ stAt l k ∧ stAt l k ≤ 1048576) x.val (by first | exact x.2.1 | exact x.2)
  refine callsIn_of_wp_marks Try.func70 rfl (hfn _) ?_ hro
  simp only [Try.ntmps70, List.size_toArray, List.length_cons, List.length_nil, Nat.reduceAdd, Nat.reduceSub, Array.replicate_succ, Array.replicate_zero, List.push_toArray, List.append_toArray, List.nil_append, List.cons_append]
  gi_wp2_with fail
  have hB0 : Below w.heap.size w (w.alloc (.cells #[.int .i64 0] 3)) := (Below.refl _ _).alloc (Nat.le_refl _) _
  have bR := Boxed.new w 3 (.int .i64 0)
  have HP1 : Hid (Gls (w.alloc (.cells #[.int .i64 0] 3)) n₀ A l) := hP.below (hB0.mono (by omega))
  have HRG := Lib.hid hrange
  clear hrange
  refine wpIn_rangeFunc_ownG hro (by omega) (gf := 72) (lb := #[.pointer (some ⟨lo, 0, none⟩), .pointer (some ⟨lo + 1, 0, none⟩)]) rfl (hfn _) (enters_of Try.func72 (by kernel_rfl) rfl)
    (strs_stops F (4 - 1) HF.out (by omega) lo n₀ cap A l o HVG.out.1 _ hn₀ (bS.alloc _) (bO.alloc _) HP1.out) (fun a b => a.trans b) (Keep.put (by simp; omega) (by simp; omega)) (Below.refl _ _) (fun _ => rfl)
    (fun pre W => Boxed W w.heap.size 3 (.int .i64 (pre.map fun x : OEl l o => stAt l x.val).sum) ∧ Below w.heap.size w W)
    (fun _ _ _ => False)
    (OwnFrom.and ((boxed_own w.heap.size 3 (fun pre : List (OEl l o) => .int .i64 (pre.map fun x : OEl l o => stAt l x.val).sum)).from _) (ownFrom_below (Nat.le_refl _) (by simp)))
    (fun _ _ _ _ _ hs _ _ => hs)
    ⟨bR, hB0⟩
    (fun x => { tmps := #[.func (.func 72) #[] #[.pointer (some ⟨lo, 0, none⟩), .pointer (some ⟨lo + 1, 0, none⟩)], undef, .int .i64 0, .pointer (some ⟨w.heap.size, 0, none⟩), undef, .int .i64 (stAt l x.val), .func (.func 72) #[] #[.pointer (some ⟨lo, 0, none⟩), .pointer (some ⟨lo + 1, 0, none⟩)], .int .i64 (x.val : Int), .int .i64 (stAt l x.val), undef, undef, undef, undef], defers := [] }) ?assign ?body ?done ?stop
  case assign =>
    intro l x W K hK
    gi_wp2
    exact hK
  case body =>
    rintro l' pre x W ⟨br, hB⟩ hlt
    have hb := sum_bound HRG.out pre
    have hx := HRG.out x
    have hpl : (pre.length : Int) ≤ 200 := by omega
    have hsn := sum_snoc (fun x : OEl l o => stAt l x.val) pre x
    obtain ⟨p, hp⟩ : ∃ p, stAt l x.val = p := ⟨_, rfl⟩
    rw [hp] at hx
    obtain ⟨s, hs⟩ : ∃ s, (pre.map fun x : OEl l o => stAt l x.val).sum = s := ⟨_, rfl⟩
    rw [hs] at hb br hsn
    rw [hp] at hsn
    have HSN := Lib.hid hsn
    clear hsn hs
    have er := br.cell
    have fr := br.frozen
    have x1 := hx.1
    have x2 := hx.2
    have hb1 := hb.1
    have hb2 : s ≤ 209715200 := by omega
    have s1 : IntKind.i64.wrap (s + p) = s + p := IntWalk.i64_in _ (by omega)
    have HBR := Lib.hid br
    rw [hp]
    clear hp br hb hx
    gi_wp2
    refine ⟨(KeepsOthers.setCell _ _ _).from _, (Keep.refl _ _ _ _).setCell (by show _ ≤ w.heap.size; omega) (.inr (by show _ ≤ w.heap.size; omega)) _, ?_, hB.setCell (p := ⟨w.heap.size, 0, none⟩) (Nat.le_refl _) _⟩
    rw [HSN.out]
    exact HBR.out.set _
  case done =>
    rintro D ys W hD hys ⟨br, hB⟩ hK
    have hfin : (ys.map fun x : OEl l o => stAt l x.val).sum = strV l o := by rw [← pick_sum l o, ← hys]; simp []
    rw [hfin] at br
    have er := br.cell
    gi_wp2
    refine ⟨by simp, .inl ⟨_, _, rfl, run_takeDeferred hK, ?_⟩⟩
    refine ⟨.int .i64 (strV l o), ?_, rfl, hB.trans (belowK_b (w := w) (Nat.le_refl _) W D _ _ (by simp at hD; omega) hK rfl rfl)⟩
    simp [results, Try.f70, go_sem]
  case stop => exact fun _ _ _ _ _ _ h => h.elim
set_option maxRecDepth 100000 in
set_option maxHeartbeats 2000000 in
theorem total_shr (lo n₀ cap : Nat) (A : Option Addr) (l : List Gl) (w : World) (hv : VG l) (hn₀ : n₀ ≤ lo) (bS : Boxed w lo 23 (.slice A l.length cap)) (hP : Gls w n₀ A l) :
    Calls Try.prog 70 #[.func (.func 73) #[] #[.pointer (some ⟨lo, 0, none⟩)]] w fun e w' => e = .returned (.int .i64 (shrV l)) ∧ Below w.heap.size w w' := by
  refine (callsIn_wide (n := 4)).1 ?_
  obtain ⟨F, hF⟩ : ∃ F, F = Fence.wide := ⟨_, rfl⟩
  have hro : F.round = none := by rw [hF]; rfl
  have hfn : ∀ k, F.fn k := fun k => by rw [hF]; trivial
  rw [← hF]
  have HF := Lib.hid hF
  have HVG := Lib.hid hv
  clear hF
  have hlen := hv.1
  have hlo := bS.lt
  have hrange : ∀ x : AEl l, 0 ≤ shAt l x.val ∧ shAt l x.val ≤ 1048576 := fun x => (fun k hk => by have := hv.2 k hk; unfold okG at this; omega : ∀ k, k < l.length → 0 ≤ shAt l k ∧ shAt l k ≤ 1048576) x.val (by first | exact x.2.1 | exact x.2)
  refine callsIn_of_wp_marks Try.func70 rfl (hfn _) ?_ hro
  simp only [Try.ntmps70, List.size_toArray, List.length_cons, List.length_nil, Nat.reduceAdd, Nat.reduceSub, Array.replicate_succ, Array.replicate_zero, List.push_toArray, List.append_toArray, List.nil_append, List.cons_append]
  gi_wp2_with fail
  have hB0 : Below w.heap.size w (w.alloc (.cells #[.int .i64 0] 3)) := (Below.refl _ _).alloc (Nat.le_refl _) _
  have bR := Boxed.new w 3 (.int .i64 0)
  have HP1 : Hid (Gls (w.alloc (.cells #[.int .i64 0] 3)) n₀ A l) := hP.below (hB0.mono (by omega))
  have HRG := Lib.hid hrange
  clear hrange
  refine wpIn_rangeFunc_ownG hro (by omega) (gf := 73) (lb := #[.pointer (some ⟨lo, 0, none⟩)]) rfl (hfn _) (enters_of Try.func73 (by kernel_rfl) rfl)
    (shrs_stops F (4 - 1) HF.out (by omega) lo n₀ cap A l HVG.out.1 _ hn₀ (bS.alloc _) HP1.out) (fun a b => a.trans b) (Keep.put (by simp; omega) (by simp; omega)) (Below.refl _ _) (fun _ => rfl)
    (fun pre W => Boxed W w.heap.size 3 (.int .i64 (pre.map fun x : AEl l => shAt l x.val).sum) ∧ Below w.heap.size w W)
    (fun _ _ _ => False)
    (OwnFrom.and ((boxed_own w.heap.size 3 (fun pre : List (AEl l) => .int .i64 (pre.map fun x : AEl l => shAt l x.val).sum)).from _) (ownFrom_below (Nat.le_refl _) (by simp)))
    (fun _ _ _ _ _ hs _ _ => hs)
    ⟨bR, hB0⟩
    (fun x => { tmps := #[.func (.func 73) #[] #[.pointer (some ⟨lo, 0, none⟩)], undef, .int .i64 0, .pointer (some ⟨w.heap.size, 0, none⟩), undef, .int .i64 (shAt l x.val), .func (.func 73) #[] #[.pointer (some ⟨lo, 0, none⟩)], .int .i64 (x.val : Int), .int .i64 (shAt l x.val), undef, undef, undef, undef], defers := [] }) ?assign ?body ?done ?stop
  case assign =>
    intro l x W K hK
    gi_wp2
    exact hK
  case body =>
    rintro l' pre x W ⟨br, hB⟩ hlt
    have hb := sum_bound HRG.out pre
    have hx := HRG.out x
    have hpl : (pre.length : Int) ≤ 200 := by omega
    have hsn := sum_snoc (fun x : AEl l => shAt l x.val) pre x
    obtain ⟨p, hp⟩ : ∃ p, shAt l x.val = p := ⟨_, rfl⟩
    rw [hp] at hx
    obtain ⟨s, hs⟩ : ∃ s, (pre.map fun x : AEl l => shAt l x.val).sum = s := ⟨_, rfl⟩
    rw [hs] at hb br hsn
    rw [hp] at hsn
    have HSN := Lib.hid hsn
    clear hsn hs
    have er := br.cell
    have fr := br.frozen
    have x1 := hx.1
    have x2 := hx.2
    have hb1 := hb.1
    have hb2 : s ≤ 209715200 := by omega
    have s1 : IntKind.i64.wrap (s + p) = s + p := IntWalk.i64_in _ (by omega)
    have HBR := Lib.hid br
    rw [hp]
    clear hp br hb hx
    gi_wp2
    refine ⟨(KeepsOthers.setCell _ _ _).from _, (Keep.refl _ _ _ _).setCell (by show _ ≤ w.heap.size; omega) (.inr (by show _ ≤ w.heap.size; omega)) _, ?_, hB.setCell (p := ⟨w.heap.size, 0, none⟩) (Nat.le_refl _) _⟩
    rw [HSN.out]
    exact HBR.out.set _
  case done =>
    rintro D ys W hD hys ⟨br, hB⟩ hK
    have hfin : (ys.map fun x : AEl l => shAt l x.val).sum = shrV l := by rw [← all_sum l, ← hys]; simp []
    rw [hfin] at br
    have er := br.cell
    gi_wp2
    refine ⟨by simp, .inl ⟨_, _, rfl, run_takeDeferred hK, ?_⟩⟩
    refine ⟨.int .i64 (shrV l), ?_, rfl, hB.trans (belowK_b (w := w) (Nat.le_refl _) W D _ _ (by simp at hD; omega) hK rfl rfl)⟩
    simp [results, Try.f70, go_sem]
  case stop => exact fun _ _ _ _ _ _ h => h.elim
end Go.Proofs.Ytjckbdbjcgjcaaa.Gu
