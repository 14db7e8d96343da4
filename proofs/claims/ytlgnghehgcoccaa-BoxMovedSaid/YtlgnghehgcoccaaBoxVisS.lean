/- box.visits as an iterator. -/
import Derived.Test.YtlgnghehgcoccaaBoxVis
namespace Go.Proofs.Ytlgnghehgcoccaa
open Go.RowKit
attribute [local go_sem] Oper.semAt_some
set_option maxHeartbeats 1000000 in
theorem visits_any (b : Nat) (w : World) :
    Calls Try.prog 33 #[.pointer (some ⟨b, 0, none⟩)] w fun e w' => e = .returned (.func (.func 37) #[] #[.pointer (some ⟨w.heap.size, 0, none⟩)]) ∧ w' = w.alloc (.cells #[.pointer (some ⟨b, 0, none⟩)] 48) := by
  go_enter Try.func33, Try.ntmps33
  go_wp2
  go_ret
  exact ⟨rfl, rfl⟩
set_option maxRecDepth 100000 in
set_option maxHeartbeats 2000000 in
theorem visits1_in (n : Nat) (hn : 1 ≤ n) (l lo n₀ b o : Nat) (W0 : World) (t : Bx) (A : Option Addr) (c : Nat) (A' : Option Addr) (c' : Nat) (hc : cntB t ≤ 100000) (hb : b < n₀) (hat : BoxAt W0 b o t A c A' c') (hK : Kids W0 0 n₀ A t.kids)
    (J Jx : List (VisIn W0 n₀) → World → Prop) (W : World) (hJ : AbidesFrom W.heap.size J) (hbw : Below n₀ W0 W) (hn0 : n₀ ≤ W.heap.size)
    (hY : ∀ pre x W, J pre W → pre.length < cntB t → YieldAt Fence.wide (n - 1) Try.prog l (vEnc x) W fun e W' => (e = .returned (.bool true) ∧ J (pre ++ [x]) W' ∧ KeepV n₀ W W') ∨ (e = .returned (.bool false) ∧ Jx (pre ++ [x]) W'))
    (bS : Boxed W lo 48 (.pointer (some ⟨b, o, none⟩))) (h0 : J [] W) :
    CallsIn Fence.wide n Try.prog 37 #[.func (.yield l) #[] #[], .pointer (some ⟨lo, 0, none⟩)] W fun e W' => (∃ v, e = .returned v) ∧
      ((∃ ys, ys.map vKey = visB t 0 0 ∧ J ys W') ∨ (∃ pre, True ∧ Jx pre W')) := by
  have hw := walkBox_any l n₀ (cntB t) W0 J Jx W.heap.size hJ (fun m pre x W1 h1 h2 => YieldAt.anyDepth rfl m (hY pre x W1 h1 h2)) (cntB t) t (Nat.le_refl _) hc b o A c A' c' 0 0 [] W hb hat hK hbw hn0 h0 (by simp)
  have HW := Lib.hid hw
  have eS := bS.cell
  clear hw hJ hY h0 hat hK bS hbw
  refine callsIn_of_wp Try.func37 rfl trivial ?_ rfl
  simp only [Try.ntmps37, List.size_toArray, List.length_cons, List.length_nil, Nat.reduceAdd, Nat.reduceSub, Array.replicate_succ, Array.replicate_zero, List.push_toArray, List.append_toArray, List.nil_append, List.cons_append]
  gi_wp2_with (refine ⟨trivial, ?_⟩; gi_at_call 38; refine (callsIn_wide.2 HW.out).mono ?_; rintro e W1 (⟨rfl, ⟨ys, hys, hj⟩, _⟩ | ⟨rfl, q, hx⟩))
  · go_end0
    exact ⟨⟨_, rfl⟩, .inl ⟨ys, hys, by simpa using hj⟩⟩
  · go_end0
    exact ⟨⟨_, rfl⟩, .inr ⟨q, trivial, hx⟩⟩
theorem vis_stops (n : Nat) (hn : 1 ≤ n) (lo n₀ b o : Nat) (W0 : World) (t : Bx) (A : Option Addr) (c : Nat) (A' : Option Addr) (c' : Nat) (hc : cntB t ≤ 100000) (hb : b < n₀) (hat : BoxAt W0 b o t A c A' c') (hK : Kids W0 0 n₀ A t.kids) (w : World) (hbw : Below n₀ W0 w) (hn0 : n₀ ≤ w.heap.size) (bS : Boxed w lo 48 (.pointer (some ⟨b, o, none⟩))) :
    SeqStopsK Fence.wide n Try.prog 37 #[.pointer (some ⟨lo, 0, none⟩)] (vEnc (W0 := W0) (n₀ := n₀)) (KeepV n₀) (fun ys => ys.map vKey = visB t 0 0) (fun _ => True) (cntB t) w := fun l J Jx W hW hJ _ hY h0 =>
  visits1_in n hn l lo n₀ b o W0 t A c A' c' hc hb hat hK J Jx W hJ (hbw.trans (hW.mono hn0)) (Nat.le_trans hn0 hW.size) hY ((hW.block lo bS.lt).trans bS) h0
end Go.Proofs.Ytlgnghehgcoccaa
