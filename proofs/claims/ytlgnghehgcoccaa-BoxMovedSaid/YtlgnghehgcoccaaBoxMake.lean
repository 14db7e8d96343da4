/- Clone, At, Rule; the extent of one box. -/
import Derived.Test.YtlgnghehgcoccaaBoxStack
import Derived.Test.YtlgnghehgcoccaaAppCopy
import Derived.Laws.ResultCell
import Derived.Lib.SliceRun
import Derived.Test.YtlgnghehgcoccaaBigCell
import Derived.Laws.CopyOwn
namespace Go.Proofs.Ytlgnghehgcoccaa
open Go.RowKit
theorem cell_of_heap {w w' : World} {b o : Nat} (h : w'.heap[b]? = w.heap[b]?) : w'.cell? ⟨b, o, none⟩ = w.cell? ⟨b, o, none⟩ := by simp [World.cell?, h]
theorem Ints.same {w w' : World} {lo hi : Nat} {A : Option Addr} {l : List Int} (h : Ints w lo hi A l) (hc : ∀ b o, lo ≤ b → b < hi → w'.cell? ⟨b, o, none⟩ = w.cell? ⟨b, o, none⟩) : Ints w' lo hi A l := fun h0 => by
  obtain ⟨b, off, rfl, hL, hB, hk⟩ := h h0
  exact ⟨b, off, rfl, hL, hB, fun k hk' => (hc b _ hL hB).trans (hk k hk')⟩
theorem infoI : (Try.prog.info? 3).map (fun i => (i.zero, i.size, i.bytes)) = some (some (.int .i64 0), 1, 8) := by kernel_rfl
def intV (l : List Int) : List Value := l.map (Value.int .i64)
theorem intV_at {l : List Int} {j : Nat} {u : Value} (h : (intV l)[j]? = some u) : j < l.length ∧ u = .int .i64 (lAt l j) := by
  unfold intV at h
  rw [List.getElem?_map] at h
  obtain ⟨x, hx, rfl⟩ := Option.map_eq_some_iff.1 h
  have hj := (List.getElem?_eq_some_iff.1 hx).1
  exact ⟨hj, by unfold lAt; simp [List.getD, hx]⟩
theorem intV_in {l : List Int} {j : Nat} (h : j < l.length) : (intV l)[j]? = some (.int .i64 (lAt l j)) := by
  unfold intV lAt
  simp [List.getD, h]
theorem ints_src {w : World} {lo hi : Nat} {A : Option Addr} {l : List Int} (h : Ints w lo hi A l) : 0 < l.length → ∃ b off, A = some ⟨b, off, none⟩ ∧ ∀ j u, (intV l)[j]? = some u → w.cell? ⟨b, off + j, none⟩ = some u := fun h0 => by
  obtain ⟨b, off, rfl, _, _, hc⟩ := h h0
  refine ⟨b, off, rfl, fun j u hu => ?_⟩
  obtain ⟨hj, rfl⟩ := intV_at hu
  exact hc j hj
theorem ints_copied {w : World} {g : Nat} {e : TypeId} {A : Option Addr} {l : List Int} (h : Copied g e (intV l) l.length A w) : Ints w g w.heap.size A l := fun h0 => by
  obtain ⟨b, cur, rfl, hg, hb, hc⟩ := h h0
  refine ⟨b, 0, rfl, hg, (Array.getElem?_eq_some_iff.1 hb).1, fun k hk => ?_⟩
  rw [Nat.zero_add]
  exact blk_cell hb k _ (hc k _ (intV_in hk))
set_option maxHeartbeats 1000000 in
theorem clone_any (A : Option Addr) (c : Nat) (l : List Int) (w : World) (hl : l.length ≤ 1000000) (hI : Ints w 0 w.heap.size A l) :
    Calls Try.prog 30 #[.slice A l.length c] w fun e w' => (∃ A' c', e = .returned (.slice A' l.length c') ∧ Ints w' w.heap.size w'.heap.size A' l ) ∧ Below w.heap.size w w' := by
  obtain ⟨i0, hi0, hz0, hz1, hz2⟩ := info_parts infoI
  have HI := Lib.hid hI
  have hE := fun W => Lib.run_eql_slice_nil (P := Try.prog) W 23 3 A l.length c 0 0 Try.underlying23
  clear hI
  cases A with
  | none =>
    have h1 : l.length = 0 := by
      rcases Nat.eq_zero_or_pos l.length with h | h
      · exact h
      · obtain ⟨_, _, e, _⟩ := HI.out h
        cases e
    have HL := Lib.hid h1
    rw [h1] at hE ⊢
    clear h1
    go_enter Try.func30, Try.ntmps30
    go_wp2
    go_ret
    exact ⟨⟨none, 0, rfl, fun h => absurd h (by have := HL.out; omega)⟩, Below.refl _ _⟩
  | some a =>
    go_enter Try.func30, Try.ntmps30
    go_wp2_with (at_builtin; refine wpList_append_copy rfl _ _ 23 3 rfl i0 _ 1 8 Try.underlying23 hi0 hz0 hz1 hz2 rfl (by decide) rfl rfl (heap_alloc_new _ _) (intV l) (by simp [intV]) (ints_src (HI.out.next (one_below _ _))) (fun u hu => by unfold intV at hu; obtain ⟨x, _, rfl⟩ := List.mem_map.1 hu; rfl) (by unfold maxLen; omega) (by omega) ?_; intro A2 c2 w2 hcp hb2; have HCP := Lib.hid hcp; have HB2 := Lib.hid hb2; clear hcp hb2)
    go_ret
    exact ⟨⟨A2, c2, rfl, ints_copied HCP.out⟩, (one_below _ _).trans HB2.out⟩
/-- A box at another place. -/
def Bx.at_ (t : Bx) (x y : Int) : Bx := .mk t.k t.nm t.sz t.w t.h t.d x y t.kids t.of_ t.src
abbrev zeroBox : Array Value := #[.int .i64 0, .string ⟨#[]⟩, .int .i64 0, .int .i64 0, .int .i64 0, .int .i64 0, .int .i64 0, .int .i64 0, .slice none 0 0, .int .i64 0, .slice none 0 0]
theorem two_boxes (w : World) (cs ds : Array Value) (t u : TypeId) : ((w.alloc (.cells cs t)).alloc (.cells ds u)).heap[w.heap.size]? = some (.cells cs t (0, 0)) ∧ ((w.alloc (.cells cs t)).alloc (.cells ds u)).heap[w.heap.size + 1]? = some (.cells ds u (0, 0)) ∧
    ((w.alloc (.cells cs t)).alloc (.cells ds u)).heap.size = w.heap.size + 2 ∧ Below w.heap.size w ((w.alloc (.cells cs t)).alloc (.cells ds u)) := by
  have := blk_new (w.alloc (.cells cs t)) (.cells ds u)
  rw [World.size_alloc] at this
  exact ⟨blk_more (blk_new _ _) _, this, by simp, two_below _ _ _⟩
theorem infoBox : (Try.prog.info? 25).map (fun i => (i.zero, i.size, i.bytes)) = some (some (.agg zeroBox), 11, 128) := by kernel_rfl
theorem bxA_one (t : Bx) (A : Option Addr) (c : Nat) (A' : Option Addr) (c' : Nat) : ∀ v ∈ (bxA t A c A' c').toList, v.oneCell' = true := by
  intro v hv
  simp at hv
  rcases hv with rfl | rfl | rfl | rfl | rfl | rfl | rfl | rfl | rfl | rfl | rfl <;> rfl
/-- A row of eleven cells that is stored whole. -/
theorem row_all (cs ds : Array Value) (h : ds.size = 11) (_h2 : cs.size = 11) : (ds.toList.take 0 ++ cs.toList ++ ds.toList.drop (0 + 11)).toArray = cs := by
  rw [List.drop_eq_nil_of_le (by simp; omega)]
  simp
end Go.Proofs.Ytlgnghehgcoccaa
