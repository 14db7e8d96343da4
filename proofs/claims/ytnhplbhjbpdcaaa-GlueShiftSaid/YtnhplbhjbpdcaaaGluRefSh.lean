/- The reference's widths and Shares. -/
import Derived.Test.YtnhplbhjbpdcaaaGluShare
import Derived.Laws.MakeOwn
namespace Go.Proofs.Ytnhplbhjbpdcaaa
open Go.RowKit
theorem infoI : (Try.prog.info? 3).map (fun i => (i.zero, i.size, i.bytes)) = some (some (.int .i64 0), 1, 8) := by kernel_rfl
theorem info_parts {P : Program} {t : TypeId} {z : Value} {s b : Nat} (h : (P.info? t).map (fun i => (i.zero, i.size, i.bytes)) = some (some z, s, b)) : ∃ i, P.info? t = some i ∧ i.zero = some z ∧ i.size = s ∧ i.bytes = b := by
  cases hi : P.info? t with
  | none => rw [hi] at h; cases h
  | some i =>
    rw [hi] at h
    simp only [Option.map_some, Option.some.injEq, Prod.mk.injEq] at h
    exact ⟨i, rfl, h.1, h.2.1, h.2.2⟩
theorem blk_cell {W : World} {b : Nat} {cs : Array Value} {t : TypeId} (h : W.heap[b]? = some (.cells cs t (0, 0))) (k : Nat) (v : Value) (hk : cs[k]? = some v) : W.cell? ⟨b, k, none⟩ = some v := (cell_of_row W b k cs t (0, 0) h).trans hk
theorem blk_free {W : World} {b : Nat} {cs : Array Value} {t : TypeId} (h : W.heap[b]? = some (.cells cs t (0, 0))) (k : Nat) : W.frozen? ⟨b, k, none⟩ = false := by simp [World.frozen?, h]
theorem blk_set {W : World} {b : Nat} {cs : Array Value} {t : TypeId} (h : W.heap[b]? = some (.cells cs t (0, 0))) (k : Nat) (v : Value) : (W.setCell ⟨b, k, none⟩ v).heap[b]? = some (.cells (cs.setIfInBounds k v) t (0, 0)) := by
  simp [World.setCell, Array.getElem?_modify, h]
/-- A list of the call's own, as a block. -/
theorem own_block {w : World} {base c : Nat} {e : TypeId} {A : Option Addr} {l : List Int} (h : Owns w base e A c l) (h0 : 0 < l.length) :
    ∃ g cur, A = some ⟨g, 0, none⟩ ∧ base ≤ g ∧ w.heap[g]? = some (.cells cur e (0, 0)) ∧ ∀ k, k < l.length → cur[k]? = some (.int .i64 (lAt l k)) := by
  obtain ⟨b, off, hA, _, hc⟩ := h.ints h0
  rcases h.2 with ⟨h1, _⟩ | ⟨g, cap, cur, hv, hg, hh, _⟩
  · injection h1 with h2
    rw [h2] at hA
    cases hA
  · injection hv with h2
    rw [h2] at hA
    injection hA with h3
    injection h3 with h4 h5
    subst h4
    subst h5
    refine ⟨g, cur, h2, hg, hh, fun k hk => ?_⟩
    have := hc k hk
    rw [Nat.zero_add] at this
    exact (cell_of_row w g k cur e (0, 0) hh).symm.trans this
def OwnTo (f : Nat → Int) (n : Nat) (w : World) (e : Ending) (w' : World) : Prop := (∃ A' c', e = .returned (.slice A' n c') ∧ Owns w' w.heap.size 3 A' c' (mapN f n)) ∧ Below w.heap.size w w'
set_option maxRecDepth 100000 in
set_option maxHeartbeats 1000000 in
theorem rwidths_any (A : Option Addr) (c : Nat) (l : List Gl) (w : World) (hm : l.length ≤ 200) (hP : Gls w w.heap.size A l) :
    Calls Try.prog 38 #[.slice A l.length c] w (OwnTo (wdAt l) l.length w) := by
  obtain ⟨i0, hi0, hz0, hz1, hz2⟩ := info_parts infoI
  have HP := Lib.hid hP
  clear hP
  go_enter Try.func38, Try.ntmps38
  go_wp2
  go_loopw [3, 4] (fun v q wr => ∃ (k : Nat) (A' : Option Addr) (c' : Nat), k ≤ l.length ∧ q = .int .i64 (k : Int) ∧ v = .slice A' k c' ∧ Owns wr w.heap.size 3 A' c' (mapN (wdAt l) k) ∧ Below w.heap.size w wr) (fun _ q _ => l.length - (intOf q).toNat)
  case atStart => exact ⟨0, none, 0, Nat.zero_le _, rfl, rfl, Owns.nil _ _ _, Below.refl _ _⟩
  case round =>
    obtain ⟨k, A', c', hk, rfl, rfl, hown, hnx⟩ := hrel
    have HO := Lib.hid hown
    have HNX := Lib.hid hnx
    clear hown hnx
    by_cases hlt : k < l.length
    · obtain ⟨b, off, rfl, hB, hc⟩ := HP.out (by omega)
      have c0 := (HNX.out.cell (p := ⟨b, off + k * 4, none⟩) hB).trans (hc k hlt).1
      have HMS := Lib.hid (mapN_succ (wdAt l) k)
      obtain ⟨a, ha⟩ : ∃ a, wdAt l k = a := ⟨_, rfl⟩
      rw [ha] at c0 HMS
      clear ha hc
      go_wp2_with (at_builtin; refine wpList_append_one (z := a) rfl _ _ 28 3 rfl i0 Try.underlying28 hi0 hz0 hz1 hz2 (l := mapN (wdAt l) k) (mapN_len _ _).symm rfl (HO.out.alloc _) rfl (heap_alloc_new _ _) (by rw [mapN_len]; omega) (by have := HNX.out.size; simp; omega) ?_; intro A2 c2 w5 hown2 hb5; have HO5 := Lib.hid hown2; have HB5 := Lib.hid hb5; clear hown2 hb5)
      go_roundw
      case rel => exact ⟨k + 1, A2, c2, by omega, by go_num, rfl, by rw [HMS.out]; exact HO5.out, (HNX.out.alloc HNX.out.size _).trans HB5.out⟩
      case measure => simp [intOf]; omega
    · obtain rfl : k = l.length := by omega
      go_wp2
      go_ret
      exact ⟨⟨A', c', rfl, HO.out⟩, HNX.out⟩
/-- A list of parts, and their sum. -/
structure PartsOk (p : List Int) (T g : Int) : Prop where
  len : p.length ≤ 200
  rng : ∀ k, k < p.length → 0 ≤ lAt p k ∧ lAt p k ≤ 1048576
  tot : sumN (lAt p) p.length = T
  pos : 0 < T
  g0 : 0 ≤ g
  g1 : g ≤ 2147483647
theorem PartsOk.sum {p : List Int} {T g : Int} (h : PartsOk p T g) {k : Nat} (hk : k ≤ p.length) : 0 ≤ sumN (lAt p) k ∧ sumN (lAt p) k ≤ T ∧ T ≤ 209715200 := by
  have h1 := sumN_pos (f := lAt p) k (fun j hj => (h.rng j (by omega)).1)
  have h2 := sumN_le (f := lAt p) (n := p.length) (fun j hj => (h.rng j hj).1) hk
  have h3 := sumN_bound (f := lAt p) (M := 1048576) p.length (fun j hj => by have := h.rng j hj; omega)
  have h4 := h.tot
  have h5 := h.len
  omega
set_option maxRecDepth 100000 in
set_option maxHeartbeats 1000000 in
theorem rshares_any (A : Option Addr) (c : Nat) (p : List Int) (T g : Int) (w : World) (hp : PartsOk p T g) (hI : Ints w w.heap.size A p) :
    Calls Try.prog 39 #[.slice A p.length c, .int .i64 g] w (OwnTo (shareN (lAt p) T g) p.length w) := by
  obtain ⟨i0, hi0, hz0, hz1, hz2⟩ := info_parts infoI
  have HI := Lib.hid hI
  have HPO := Lib.hid hp
  have h200 := hp.len
  have hg0 := hp.g0
  have hg1 := hp.g1
  have hT := hp.pos
  clear hI hp
  go_enter Try.func39, Try.ntmps39
  go_wp2
  go_loopw [5, 6] (fun s q wr => ∃ k : Nat, k ≤ p.length ∧ q = .int .i64 (k : Int) ∧ s = .int .i64 (sumN (lAt p) k) ∧ wr = w) (fun _ q _ => p.length - (intOf q).toNat)
  case atStart => exact ⟨0, Nat.zero_le _, rfl, rfl, rfl⟩
  case round =>
    obtain ⟨k, hk, rfl, rfl, rfl⟩ := hrel
    by_cases hlt : k < p.length
    · obtain ⟨b, off, rfl, hB, hc⟩ := HI.out (by omega)
      have c0 := hc k hlt
      have h1 := HPO.out.sum (k := k) (by omega)
      have h2 := HPO.out.rng k hlt
      have hsn : Hid (sumN (lAt p) (k + 1) = sumN (lAt p) k + lAt p k) := rfl
      obtain ⟨s, hs⟩ : ∃ s, sumN (lAt p) k = s := ⟨_, rfl⟩
      obtain ⟨a, ha⟩ : ∃ a, lAt p k = a := ⟨_, rfl⟩
      rw [hs] at h1 hsn ⊢
      rw [ha] at c0 h2 hsn
      have s1 : IntKind.i64.wrap (s + a) = s + a := IntWalk.i64_in _ (by omega)
      clear hs ha hc h1 h2
      go_wp2
      go_roundw
      case rel => exact ⟨k + 1, by omega, by go_num, by rw [hsn.out], trivial⟩
      case measure => simp [intOf]; omega
    · have e1 : (k : Int) = (p.length : Int) := by omega
      have e2 : sumN (lAt p) k = T := by rw [show k = p.length by omega]; exact HPO.out.tot
      rw [e1, e2]
      clear e1 e2 hk hlt
      obtain ⟨wo, rfl⟩ : ∃ wo : World, wo = wr := ⟨_, rfl⟩
      go_wp2
      go_loopw [7, 8, 9, 10] (fun v s t q wr => ∃ (k : Nat) (A' : Option Addr) (c' : Nat), k ≤ p.length ∧ q = .int .i64 (k : Int) ∧ s = .int .i64 (sumN (lAt p) k) ∧ t = .int .i64 (cumN (lAt p) T g k) ∧ v = .slice A' k c' ∧ Owns wr wo.heap.size 3 A' c' (mapN (shareN (lAt p) T g) k) ∧ Below wo.heap.size wo wr) (fun _ _ _ q _ => p.length - (intOf q).toNat)
      case atStart => exact ⟨0, none, 0, Nat.zero_le _, rfl, rfl, by simp [cumN, sumN], rfl, Owns.nil _ _ _, Below.refl _ _⟩
      case round =>
        obtain ⟨k, A', c', hk, rfl, rfl, rfl, rfl, hown, hnx⟩ := hrel
        have HO := Lib.hid hown
        have HNX := Lib.hid hnx
        clear hown hnx
        by_cases hlt : k < p.length
        · obtain ⟨b, off, rfl, hB, hc⟩ := HI.out (by omega)
          have c0 := (HNX.out.cell (p := ⟨b, off + k, none⟩) hB).trans (hc k hlt)
          have h1 := HPO.out.sum (k := k) (by omega)
          have h3 := HPO.out.sum (k := k + 1) (by omega)
          have hsn : sumN (lAt p) (k + 1) = sumN (lAt p) k + lAt p k := rfl
          have hcu : cumN (lAt p) T g (k + 1) = g * (sumN (lAt p) k + lAt p k) / T := rfl
          have HMS := Lib.hid (mapN_succ (shareN (lAt p) T g) k)
          have hsh : shareN (lAt p) T g k = g * (sumN (lAt p) k + lAt p k) / T - g * sumN (lAt p) k / T := rfl
          have hc0 : cumN (lAt p) T g k = g * sumN (lAt p) k / T := rfl
          obtain ⟨s, hs⟩ : ∃ s, sumN (lAt p) k = s := ⟨_, rfl⟩
          obtain ⟨a, ha⟩ : ∃ a, lAt p k = a := ⟨_, rfl⟩
          rw [hsn] at h3
          rw [hsh] at HMS
          rw [hc0]
          rw [hs, ha] at h3 hsn hcu HMS
          rw [hs] at h1 ⊢
          rw [ha] at c0
          have HSN := Lib.hid (And.intro hsn hcu)
          have s1 : IntKind.i64.wrap (s + a) = s + a := IntWalk.i64_in _ (by omega)
          have m1 := mul_in hg0 hg1 h3.1 (show s + a ≤ 209715200 by omega)
          have m2 := cum_in hg0 hg1 h3.1 h3.2.1 hT
          have m3 := cum_in hg0 hg1 h1.1 h1.2.1 hT
          have s2 : IntKind.i64.wrap (g * (s + a)) = g * (s + a) := IntWalk.i64_in _ (by omega)
          have s3 : IntKind.i64.wrap ((g * (s + a)).tdiv T) = g * (s + a) / T := IntWalk.i64_quo _ _ (by omega)
          have s4 : IntKind.i64.wrap (g * (s + a) / T - g * s / T) = g * (s + a) / T - g * s / T := IntWalk.i64_in _ (by omega)
          have s5 : ¬ T = 0 := by omega
          clear hs ha hc hsn hcu hsh hc0 m1 m2 m3 h1 h3
          go_wp2_with (at_builtin; refine wpList_append_one (z := g * (s + a) / T - g * s / T) rfl _ _ 28 3 rfl i0 Try.underlying28 hi0 hz0 hz1 hz2 (l := mapN (shareN (lAt p) T g) k) (mapN_len _ _).symm rfl (HO.out.alloc _) rfl (heap_alloc_new _ _) (by rw [mapN_len]; omega) (by have := HNX.out.size; simp; omega) ?_; intro A2 c2 w5 hown2 hb5; have HO5 := Lib.hid hown2; have HB5 := Lib.hid hb5; clear hown2 hb5)
          go_roundw
          case rel => exact ⟨k + 1, A2, c2, by omega, by go_num, by rw [HSN.out.1], by rw [HSN.out.2], rfl, by rw [HMS.out]; exact HO5.out, (HNX.out.alloc HNX.out.size _).trans HB5.out⟩
          case measure => simp [intOf]; omega
        · obtain rfl : k = p.length := by omega
          go_wp2
          go_ret
          exact ⟨⟨A', c', rfl, HO.out⟩, HNX.out⟩
end Go.Proofs.Ytnhplbhjbpdcaaa
