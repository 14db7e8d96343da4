/- Glue: the reference's Set. -/
import Derived.Test.YtjckbdbjcgjcaaaGluShare
import Derived.Laws.MakeOwn
/- The reference's widths and Shares. -/
namespace Go.Proofs.Ytjckbdbjcgjcaaa.Gu
open Go.RowKit
theorem infoI : (Try.prog.info? 3).map (fun i => (i.zero, i.size, i.bytes)) = some (some (.int .i64 0), 1, 8) := by kernel_rfl
theorem info_parts {P : Program} {t : TypeId} {z : Value} {s b : Nat} (h : (P.info? t).map (fun i => (i.zero, i.size, i.bytes)) = some (some z, s, b)) : ∃ i, P.info? t = some i ∧ i.zero = some z ∧ i.size = s ∧ i.bytes = b := by
  cases hi : P.info? t with
  | none => rw [hi] at h; cases h
  | some i =>
    rw [hi] at h
    simp only [Option.map_some, Option.some.injEq, Prod.mk.injEq] at h
    exact ⟨i, rfl, h.1, h.2.1, h.2.2⟩
theorem blk_cell {W : World} {b : Nat} {cs : Array Value} {t : TypeId} (h : W.heap[b]? = some (.cells cs t (0, 0))) (k : Nat) (v : Value) (hk : cs[k]? = some v) : W.cell? ⟨b, k, none⟩ = some v := (cell_of_row W b k cs t (0, 0) h).trans hk
theorem blk_free {W : World} {b : Nat} {cs : Array Value} {t : TypeId} (h : W.heap[b]? = some (.cells cs t (0, 0))) (k : Nat) : W.frozen? ⟨b, k, none⟩ = false := by simp [World.frozen?, h]
theorem blk_set {W : World} {b : Nat} {cs : Array Value} {t : TypeId} (h : W.heap[b]? = some (.cells cs t (0, 0))) (k : Nat) (v : Value) : (W.setCell ⟨b, k, none⟩ v).heap[b]? = some (.cells (cs.setIfInBounds k v) t (0, 0)) := by
  simp [World.setCell, Array.getElem?_modify, h]
/-- A list of the call's own, as a block. -/
theorem own_block {w : World} {base c : Nat} {e : TypeId} {A : Option Addr} {l : List Int} (h : Owns w base e A c l) (h0 : 0 < l.length) :
    ∃ g cur, A = some ⟨g, 0, none⟩ ∧ base ≤ g ∧ w.heap[g]? = some (.cells cur e (0, 0)) ∧ ∀ k, k < l.length → cur[k]? = some (.int .i64 (lAt l k)) := by
  obtain ⟨b, off, hA, _, hc⟩ := h.ints h0
  rcases h.2 with ⟨h1, _⟩ | ⟨g, cap, cur, hv, hg, hh, _⟩
  · injection h1 with h2
    rw [h2] at hA
    cases hA
  · injection hv with h2
    rw [h2] at hA
    injection hA with h3
    injection h3 with h4 h5
    subst h4
    subst h5
    refine ⟨g, cur, h2, hg, hh, fun k hk => ?_⟩
    have := hc k hk
    rw [Nat.zero_add] at this
    exact (cell_of_row w g k cur e (0, 0) hh).symm.trans this
def OwnTo (f : Nat → Int) (n : Nat) (w : World) (e : Ending) (w' : World) : Prop := (∃ A' c', e = .returned (.slice A' n c') ∧ Owns w' w.heap.size 3 A' c' (mapN f n)) ∧ Below w.heap.size w w'
set_option maxRecDepth 100000 in
set_option maxHeartbeats 1000000 in
theorem rwidths_any (A : Option Addr) (c : Nat) (l : List Gl) (w : World) (hm : l.length ≤ 200) (hP : Gls w w.heap.size A l) :
    Calls Try.prog 62 #[.slice A l.length c] w (OwnTo (wdAt l) l.length w) := by
  obtain ⟨i0, hi0, hz0, hz1, hz2⟩ := info_parts infoI
  have HP := Lib.hid hP
  clear hP
  go_enter Try.func62, Try.ntmps62
  go_wp2
  go_loopw [3, 4] (fun v q wr => ∃ (k : Nat) (A' : Option Addr) (c' : Nat), k ≤ l.length ∧ q = .int .i64 (k : Int) ∧ v = .slice A' k c' ∧ Owns wr w.heap.size 3 A' c' (mapN (wdAt l) k) ∧ Below w.heap.size w wr) (fun _ q _ => l.length - (intOf q).toNat)
  case atStart => exact ⟨0, none, 0, Nat.zero_le _, rfl, rfl, Owns.nil _ _ _, Below.refl _ _⟩
  case round =>
    obtain ⟨k, A', c', hk, rfl, rfl, hown, hnx⟩ := hrel
    have HO := Lib.hid hown
    have HNX := Lib.hid hnx
    clear hown hnx
    by_cases hlt : k < l.length
    · obtain ⟨b, off, rfl, hB, hc⟩ := HP.out (by omega)
      have c0 := (HNX.out.cell (p := ⟨b, off + k * 4, none⟩) hB).trans (hc k hlt).1
      have HMS := Lib.hid (mapN_succ (wdAt l) k)
      obtain ⟨a, ha⟩ : ∃ a, wdAt l k = a := ⟨_, rfl⟩
      rw [ha] at c0 HMS
      clear ha hc
      go_wp2_with (at_builtin; refine wpList_append_one (z := a) rfl _ _ 26 3 rfl i0 Try.underlying26 hi0 hz0 hz1 hz2 (l := mapN (wdAt l) k) (mapN_len _ _).symm rfl (HO.out.alloc _) rfl (heap_alloc_new _ _) (by rw [mapN_len]; omega) (by have := HNX.out.size; simp; omega) ?_; intro A2 c2 w5 hown2 hb5; have HO5 := Lib.hid hown2; have HB5 := Lib.hid hb5; clear hown2 hb5)
      go_roundw
      case rel => exact ⟨k + 1, A2, c2, by omega, by go_num, rfl, by rw [HMS.out]; exact HO5.out, (HNX.out.alloc HNX.out.size _).trans HB5.out⟩
      case measure => simp [intOf]; omega
    · obtain rfl : k = l.length := by omega
      go_wp2
      go_ret
      exact ⟨⟨A', c', rfl, HO.out⟩, HNX.out⟩
/-- A list of parts, and their sum. -/
structure PartsOk (p : List Int) (T g : Int) : Prop where
  len : p.length ≤ 200
  rng : ∀ k, k < p.length → 0 ≤ lAt p k ∧ lAt p k ≤ 1048576
  tot : sumN (lAt p) p.length = T
  pos : 0 < T
  g0 : 0 ≤ g
  g1 : g ≤ 2147483647
theorem PartsOk.sum {p : List Int} {T g : Int} (h : PartsOk p T g) {k : Nat} (hk : k ≤ p.length) : 0 ≤ sumN (lAt p) k ∧ sumN (lAt p) k ≤ T ∧ T ≤ 209715200 := by
  have h1 := sumN_pos (f := lAt p) k (fun j hj => (h.rng j (by omega)).1)
  have h2 := sumN_le (f := lAt p) (n := p.length) (fun j hj => (h.rng j hj).1) hk
  have h3 := sumN_bound (f := lAt p) (M := 1048576) p.length (fun j hj => by have := h.rng j hj; omega)
  have h4 := h.tot
  have h5 := h.len
  omega
set_option maxRecDepth 100000 in
set_option maxHeartbeats 1000000 in
theorem rshares_any (A : Option Addr) (c : Nat) (p : List Int) (T g : Int) (w : World) (hp : PartsOk p T g) (hI : Ints w w.heap.size A p) :
    Calls Try.prog 64 #[.slice A p.length c, .int .i64 g] w (OwnTo (shareN (lAt p) T g) p.length w) := by
  obtain ⟨i0, hi0, hz0, hz1, hz2⟩ := info_parts infoI
  have HI := Lib.hid hI
  have HPO := Lib.hid hp
  have h200 := hp.len
  have hg0 := hp.g0
  have hg1 := hp.g1
  have hT := hp.pos
  clear hI hp
  go_enter Try.func64, Try.ntmps64
  go_wp2
  go_loopw [5, 6] (fun s q wr => ∃ k : Nat, k ≤ p.length ∧ q = .int .i64 (k : Int) ∧ s = .int .i64 (sumN (lAt p) k) ∧ wr = w) (fun _ q _ => p.length - (intOf q).toNat)
  case atStart => exact ⟨0, Nat.zero_le _, rfl, rfl, rfl⟩
  case round =>
    obtain ⟨k, hk, rfl, rfl, rfl⟩ := hrel
    by_cases hlt : k < p.length
    · obtain ⟨b, off, rfl, hB, hc⟩ := HI.out (by omega)
      have c0 := hc k hlt
      have h1 := HPO.out.sum (k := k) (by omega)
      have h2 := HPO.out.rng k hlt
      have hsn : Hid (sumN (lAt p) (k + 1) = sumN (lAt p) k + lAt p k) := rfl
      obtain ⟨s, hs⟩ : ∃ s, sumN (lAt p) k = s := ⟨_, rfl⟩
      obtain ⟨a, ha⟩ : ∃ a, lAt p k = a := ⟨_, rfl⟩
      rw [hs] at h1 hsn ⊢
      rw [ha] at c0 h2 hsn
      have s1 : IntKind.i64.wrap (s + a) = s + a := IntWalk.i64_in _ (by omega)
      clear hs ha hc h1 h2
      go_wp2
      go_roundw
      case rel => exact ⟨k + 1, by omega, by go_num, by rw [hsn.out], trivial⟩
      case measure => simp [intOf]; omega
    · have e1 : (k : Int) = (p.length : Int) := by omega
      have e2 : sumN (lAt p) k = T := by rw [show k = p.length by omega]; exact HPO.out.tot
      rw [e1, e2]
      clear e1 e2 hk hlt
      obtain ⟨wo, rfl⟩ : ∃ wo : World, wo = wr := ⟨_, rfl⟩
      go_wp2
      go_loopw [7, 8, 9, 10] (fun v s t q wr => ∃ (k : Nat) (A' : Option Addr) (c' : Nat), k ≤ p.length ∧ q = .int .i64 (k : Int) ∧ s = .int .i64 (sumN (lAt p) k) ∧ t = .int .i64 (cumN (lAt p) T g k) ∧ v = .slice A' k c' ∧ Owns wr wo.heap.size 3 A' c' (mapN (shareN (lAt p) T g) k) ∧ Below wo.heap.size wo wr) (fun _ _ _ q _ => p.length - (intOf q).toNat)
      case atStart => exact ⟨0, none, 0, Nat.zero_le _, rfl, rfl, by simp [cumN, sumN], rfl, Owns.nil _ _ _, Below.refl _ _⟩
      case round =>
        obtain ⟨k, A', c', hk, rfl, rfl, rfl, rfl, hown, hnx⟩ := hrel
        have HO := Lib.hid hown
        have HNX := Lib.hid hnx
        clear hown hnx
        by_cases hlt : k < p.length
        · obtain ⟨b, off, rfl, hB, hc⟩ := HI.out (by omega)
          have c0 := (HNX.out.cell (p := ⟨b, off + k, none⟩) hB).trans (hc k hlt)
          have h1 := HPO.out.sum (k := k) (by omega)
          have h3 := HPO.out.sum (k := k + 1) (by omega)
          have hsn : sumN (lAt p) (k + 1) = sumN (lAt p) k + lAt p k := rfl
          have hcu : cumN (lAt p) T g (k + 1) = g * (sumN (lAt p) k + lAt p k) / T := rfl
          have HMS := Lib.hid (mapN_succ (shareN (lAt p) T g) k)
          have hsh : shareN (lAt p) T g k = g * (sumN (lAt p) k + lAt p k) / T - g * sumN (lAt p) k / T := rfl
          have hc0 : cumN (lAt p) T g k = g * sumN (lAt p) k / T := rfl
          obtain ⟨s, hs⟩ : ∃ s, sumN (lAt p) k = s := ⟨_, rfl⟩
          obtain ⟨a, ha⟩ : ∃ a, lAt p k = a := ⟨_, rfl⟩
          rw [hsn] at h3
          rw [hsh] at HMS
          rw [hc0]
          rw [hs, ha] at h3 hsn hcu HMS
          rw [hs] at h1 ⊢
          rw [ha] at c0
          have HSN := Lib.hid (And.intro hsn hcu)
          have s1 : IntKind.i64.wrap (s + a) = s + a := IntWalk.i64_in _ (by omega)
          have m1 := mul_in hg0 hg1 h3.1 (show s + a ≤ 209715200 by omega)
          have m2 := cum_in hg0 hg1 h3.1 h3.2.1 hT
          have m3 := cum_in hg0 hg1 h1.1 h1.2.1 hT
          have s2 : IntKind.i64.wrap (g * (s + a)) = g * (s + a) := IntWalk.i64_in _ (by omega)
          have s3 : IntKind.i64.wrap ((g * (s + a)).tdiv T) = g * (s + a) / T := IntWalk.i64_quo _ _ (by omega)
          have s4 : IntKind.i64.wrap (g * (s + a) / T - g * s / T) = g * (s + a) / T - g * s / T := IntWalk.i64_in _ (by omega)
          have s5 : ¬ T = 0 := by omega
          clear hs ha hc hsn hcu hsh hc0 m1 m2 m3 h1 h3
          go_wp2_with (at_builtin; refine wpList_append_one (z := g * (s + a) / T - g * s / T) rfl _ _ 26 3 rfl i0 Try.underlying26 hi0 hz0 hz1 hz2 (l := mapN (shareN (lAt p) T g) k) (mapN_len _ _).symm rfl (HO.out.alloc _) rfl (heap_alloc_new _ _) (by rw [mapN_len]; omega) (by have := HNX.out.size; simp; omega) ?_; intro A2 c2 w5 hown2 hb5; have HO5 := Lib.hid hown2; have HB5 := Lib.hid hb5; clear hown2 hb5)
          go_roundw
          case rel => exact ⟨k + 1, A2, c2, by omega, by go_num, by rw [HSN.out.1], by rw [HSN.out.2], rfl, by rw [HMS.out]; exact HO5.out, (HNX.out.alloc HNX.out.size _).trans HB5.out⟩
          case measure => simp [intOf]; omega
        · obtain rfl : k = p.length := by omega
          go_wp2
          go_ret
          exact ⟨⟨A', c', rfl, HO.out⟩, HNX.out⟩
end Go.Proofs.Ytjckbdbjcgjcaaa.Gu
/- The reference's stretched, shrunk, check and Set. -/
namespace Go.Proofs.Ytjckbdbjcgjcaaa.Gu
open Go.RowKit
/-- By how much a list is shrunk. -/
def gS (l : List Gl) (e : Int) : Int := if shrV l < -e then shrV l else -e
/-- The width of element k of a list that is set to e more than its natural width. -/
def setV (l : List Gl) (e : Int) (k : Nat) : Int :=
  if e < 0 then (if gS l e = 0 then wdAt l k else wdAt l k - shareN (shAt l) (shrV l) (gS l e) k)
  else (if ordZ l < 0 then wdAt l k else wdAt l k + shareN (stO l (ordZ l)) (strV l (ordZ l)) e k)
def restV (l : List Gl) (e : Int) : Int := if e < 0 then gS l e + e else if ordZ l < 0 then e else 0
theorem ordN_cases (l : List Gl) : ∀ n : Nat, ordN l n = -1 ∨ (∃ m : Nat, m < n ∧ ordN l n = m ∧ strZ l m ≠ 0)
  | 0 => .inl rfl
  | n + 1 => by
    unfold ordN
    by_cases h : strZ l n = 0
    · rw [if_pos h]
      rcases ordN_cases l n with h1 | ⟨m, h1, h2, h3⟩
      · exact .inl h1
      · exact .inr ⟨m, by omega, h2, h3⟩
    · rw [if_neg h]
      exact .inr ⟨n, by omega, rfl, h⟩
theorem ordZ_cases (l : List Gl) : ordZ l = -1 ∨ (0 ≤ ordZ l ∧ ordZ l ≤ 3 ∧ 0 < strZ l (ordZ l)) := by
  rcases ordN_cases l 4 with h | ⟨m, h1, h2, h3⟩
  · exact .inl h
  · right
    unfold ordZ
    rw [h2]
    have := strZ_pos l (m : Int)
    omega
theorem strZ_ok {l : List Gl} (h : VG l) (o : Int) : strZ l o = strV l o := if_pos h
theorem shrZ_ok {l : List Gl} (h : VG l) : shrZ l = shrV l := if_pos h
theorem natZ_ok {l : List Gl} (h : VG l) : natZ l = natV l := if_pos h
theorem sum_map {f : Nat → Int} {n : Nat} {k : Nat} (hk : k ≤ n) : sumN (lAt (mapN f n)) k = sumN f k := sumN_congr k (fun j hj => mapN_at f (by omega))
theorem share_map {f : Nat → Int} {n : Nat} {T g : Int} {k : Nat} (hk : k < n) : shareN (lAt (mapN f n)) T g k = shareN f T g k := by
  unfold shareN cumN
  rw [sum_map (by omega), sum_map (by omega)]
theorem parts_of {f : Nat → Int} {n : Nat} {T g : Int} (hn : n ≤ 200) (h : ∀ k, k < n → 0 ≤ f k ∧ f k ≤ 1048576) (ht : sumN f n = T) (hp : 0 < T) (h0 : 0 ≤ g) (h1 : g ≤ 2147483647) : PartsOk (mapN f n) T g :=
  ⟨by rw [mapN_len]; exact hn, fun k hk => by rw [mapN_len] at hk; rw [mapN_at f hk]; exact h k hk, by rw [mapN_len, sum_map (Nat.le_refl _)]; exact ht, hp, h0, h1⟩
theorem share_in {f : Nat → Int} {n : Nat} {T g : Int} (h : ∀ k, k < n → 0 ≤ f k ∧ f k ≤ 1048576) (ht : sumN f n = T) (hp : 0 < T) (h0 : 0 ≤ g) (h1 : g ≤ 2147483647) {k : Nat} (hk : k < n) : 0 ≤ shareN f T g k ∧ shareN f T g k ≤ 2147483647 := by
  have a0 := sumN_pos (f := f) k (fun j hj => (h j (by omega)).1)
  have a1 := sumN_le (f := f) (n := n) (fun j hj => (h j hj).1) (show k + 1 ≤ n by omega)
  have a2 := h k hk
  have a3 : sumN f (k + 1) = sumN f k + f k := rfl
  have b1 := cum_in h0 h1 (s := sumN f (k + 1)) (T := T) (by omega) (by omega) hp
  have b2 := cum_in h0 h1 (s := sumN f k) (T := T) a0 (by omega) hp
  have b3 : g * sumN f k / T ≤ g * sumN f (k + 1) / T := Int.ediv_le_ediv hp (Int.mul_le_mul_of_nonneg_left (by omega) h0)
  unfold shareN cumN
  omega
def SetTo (f : Nat → Int) (n : Nat) (x : Int) (w : World) (e : Ending) (w' : World) : Prop := (∃ A' c', e = .returned (.tuple #[.slice A' n c', .int .i64 x]) ∧ Ints w' w'.heap.size A' (mapN f n)) ∧ Below w.heap.size w w'
theorem ints_own {w : World} {base c : Nat} {A : Option Addr} {f : Nat → Int} {n : Nat} (h : Owns w base 3 A c (mapN f n)) : Ints w w.heap.size A (mapN f n) := h.ints
theorem ints_blk {w : World} {b : Nat} {cs : Array Value} {f : Nat → Int} {n : Nat} (h : w.heap[b]? = some (.cells cs 3 (0, 0))) (hc : ∀ k, k < n → cs[k]? = some (.int .i64 (f k))) : Ints w w.heap.size (some ⟨b, 0, none⟩) (mapN f n) := fun _ =>
  ⟨b, 0, rfl, (Array.getElem?_eq_some_iff.1 h).1, fun k hk => by
    rw [mapN_len] at hk
    rw [mapN_at f hk, Nat.zero_add]
    exact blk_cell h k _ (hc k hk)⟩
set_option maxRecDepth 100000 in
set_option maxHeartbeats 1000000 in
theorem rstretched_any {o : Int} (A : Option Addr) (c : Nat) (l : List Gl) (e : Int) (w : World) (hv : VG l) (h0 : 0 ≤ e) (h1 : e ≤ 2147483647) (ho : ordZ l = o) (hP : Gls w w.heap.size A l) :
    Calls Try.prog 44 #[.slice A l.length c, .int .i64 e] w (SetTo (setV l e) l.length (restV l e) w) := by
  obtain ⟨i0, hi0, hz0, hz1, hz2⟩ := info_parts infoI
  have HP := Lib.hid hP
  have HV := Lib.hid hv
  have HO0 := Lib.hid ho
  have h200 := hv.1
  have HM : Hid (l.length ≤ lenMax) := by show _ ≤ _; unfold lenMax; omega
  have hoc := ordZ_cases l
  rw [ho] at hoc
  have HSV : Hid (∀ k, setV l e k = if o < 0 then wdAt l k else wdAt l k + shareN (stO l o) (strV l o) e k) := fun k => by unfold setV; rw [if_neg (by omega), ho]
  have HRV : Hid (restV l e = if o < 0 then e else 0) := by show _ = _; unfold restV; rw [if_neg (by omega), ho]
  clear hP hv ho
  rcases hoc with hoc | ⟨hoc, hoc3, hpos⟩
  · subst hoc
    go_enter Try.func44, Try.ntmps44
    go_wp2_with fail
    refine (rwidths_any _ _ l _ h200 HP.out).mono ?_
    rintro e1 w1 ⟨⟨A1, c1, rfl, hO1⟩, hb1⟩
    have HO1 := Lib.hid hO1
    have HB1 := Lib.hid hb1
    clear hO1 hb1
    go_wp2_with fail
    refine (rord_any _ _ l _ HO0.out HM.out (HP.out.next HB1.out)).mono ?_
    rintro e2 w2 ⟨rfl, hb2⟩
    go_wp2
    go_ret2
    refine ⟨⟨A1, c1, by rw [HRV.out, if_pos (by omega)]; rfl, ?_⟩, below_next HB1.out hb2⟩
    have e : mapN (setV l e) l.length = mapN (wdAt l) l.length := by
      unfold mapN
      refine List.map_congr_left (fun k _ => ?_)
      rw [HSV.out, if_pos (by omega)]
    rw [e]
    exact (HO1.out.below hb2).ints
  · have hn0 : 0 < l.length := by
      by_cases h : l.length = 0
      · exfalso
        rw [strZ_ok HV.out] at hpos
        unfold strV at hpos
        rw [h] at hpos
        simp [sumN] at hpos
      · omega
    rw [strZ_ok HV.out] at hpos
    have hPO := parts_of (g := e) h200 (fun k hk => stO_range HV.out o hk) (show sumN (stO l o) l.length = strV l o from rfl) hpos h0 h1
    have hSI := fun k hk => share_in (g := e) (k := k) (fun k hk => stO_range HV.out o hk) (show sumN (stO l o) l.length = strV l o from rfl) hpos h0 h1 hk
    have HPO := Lib.hid (And.intro hPO hSI)
    clear hPO hSI hpos
    go_enter Try.func44, Try.ntmps44
    go_wp2_with fail
    refine (rwidths_any _ _ l _ h200 HP.out).mono ?_
    rintro e1 w1 ⟨⟨A1, c1, rfl, hO1⟩, hb1⟩
    have HO1 := Lib.hid hO1
    have HB1 := Lib.hid hb1
    clear hO1 hb1
    go_wp2_with fail
    refine (rord_any _ _ l _ HO0.out HM.out (HP.out.next HB1.out)).mono ?_
    rintro e2 w2 ⟨rfl, hb2⟩
    have HB2 := Lib.hid (below_next HB1.out hb2)
    obtain ⟨t, cur, rfl, ht, hcur, hcc⟩ := own_block (HO1.out.below hb2) (by rw [mapN_len]; exact hn0)
    rw [mapN_len] at hcc
    have htl : t < w2.heap.size := (Array.getElem?_eq_some_iff.1 hcur).1
    have HC : Hid (w2.heap[t]? = some (.cells cur 3 (0, 0)) ∧ ∀ k, k < l.length → cur[k]? = some (.int .i64 (wdAt l k))) := ⟨hcur, fun k hk => (hcc k hk).trans (by rw [mapN_at _ hk])⟩
    clear hb2 hcur hcc
    go_wp2
    go_loopw [8, 9] (fun v q wr => ∃ (k : Nat) (A' : Option Addr) (c' : Nat), k ≤ l.length ∧ q = .int .i64 (k : Int) ∧ v = .slice A' k c' ∧ Owns wr w2.heap.size 3 A' c' (mapN (stO l o) k) ∧ Below w2.heap.size w2 wr) (fun _ q _ => l.length - (intOf q).toNat)
    case atStart => exact ⟨0, none, 0, Nat.zero_le _, rfl, rfl, Owns.nil _ _ _, Below.refl _ _⟩
    case round =>
      obtain ⟨k, A', c', hk, rfl, rfl, hown, hnx⟩ := hrel
      have HO := Lib.hid hown
      have HNX := Lib.hid hnx
      clear hown hnx
      by_cases hlt : k < l.length
      · obtain ⟨b, off, rfl, hB, hc⟩ := HP.out (by omega)
        have HW := Lib.hid (below_next HB2.out HNX.out)
        have c1' := (HW.out.cell (p := ⟨b, off + k * 4 + 1, none⟩) hB).trans (hc k hlt).2.1
        have c3' := (HW.out.cell (p := ⟨b, off + k * 4 + 3, none⟩) hB).trans (hc k hlt).2.2.2
        have HMS := Lib.hid (mapN_succ (stO l o) k)
        have hso : stO l o k = if odAt l k = o then stAt l k else 0 := rfl
        rw [hso] at HMS
        obtain ⟨a, ha⟩ : ∃ a, stAt l k = a := ⟨_, rfl⟩
        obtain ⟨d, hd⟩ : ∃ d, odAt l k = d := ⟨_, rfl⟩
        rw [ha] at c1' HMS
        rw [hd] at c3' HMS
        clear ha hd hc hso
        by_cases hdo : d = o
        · rw [if_pos hdo] at HMS
          subst hdo
          go_wp2_with (at_builtin; refine wpList_append_one (z := a) rfl _ _ 26 3 rfl i0 Try.underlying26 hi0 hz0 hz1 hz2 (l := mapN (stO l d) k) (mapN_len _ _).symm rfl (HO.out.alloc _) rfl (heap_alloc_new _ _) (by rw [mapN_len]; omega) (by have := HNX.out.size; simp; omega) ?_; intro A2 c2 w5 hown2 hb5; have HO5 := Lib.hid hown2; have HB5 := Lib.hid hb5; clear hown2 hb5)
          go_roundw
          case rel => exact ⟨k + 1, A2, c2, by omega, by go_num, rfl, by rw [HMS.out]; exact HO5.out, (HNX.out.alloc HNX.out.size _).trans HB5.out⟩
          case measure => simp [intOf]; omega
        · rw [if_neg hdo] at HMS
          have b1 : (d == o) = false := beq_eq_false_iff_ne.2 hdo
          go_wp2_with (at_builtin; refine wpList_append_one (z := 0) rfl _ _ 26 3 rfl i0 Try.underlying26 hi0 hz0 hz1 hz2 (l := mapN (stO l o) k) (mapN_len _ _).symm rfl (HO.out.alloc _) rfl (heap_alloc_new _ _) (by rw [mapN_len]; omega) (by have := HNX.out.size; simp; omega) ?_; intro A2 c2 w5 hown2 hb5; have HO5 := Lib.hid hown2; have HB5 := Lib.hid hb5; clear hown2 hb5)
          go_roundw
          case rel => exact ⟨k + 1, A2, c2, by omega, by go_num, rfl, by rw [HMS.out]; exact HO5.out, (HNX.out.alloc HNX.out.size _).trans HB5.out⟩
          case measure => simp [intOf]; omega
      · have e1 : k = l.length := by omega
        subst e1
        have hSH := rshares_any A' c' (mapN (stO l o) l.length) (strV l o) e wr HPO.out.1 HO.out.ints
        rw [mapN_len] at hSH
        have HSH := Lib.hid hSH
        clear hSH hlt hk
        go_wp2_with fail
        refine HSH.out.mono ?_
        rintro e3 w3 ⟨⟨A3, c3, rfl, hO3⟩, hb3⟩
        obtain ⟨t3, cur3, rfl, ht3, hcur3, hcc3⟩ := own_block hO3 (by rw [mapN_len]; exact hn0)
        rw [mapN_len] at hcc3
        have hne : t ≠ t3 := by have := HNX.out.size; omega
        have HB3 := Lib.hid (below_next HNX.out hb3)
        have HC3 : Hid (w3.heap[t3]? = some (.cells cur3 3 (0, 0)) ∧ ∀ k, k < l.length → cur3[k]? = some (.int .i64 (shareN (stO l o) (strV l o) e k))) := ⟨hcur3, fun k hk => (hcc3 k hk).trans (by rw [mapN_at _ hk, share_map hk])⟩
        have HT3 := Lib.hid ((HB3.out.block t htl).trans HC.out.1)
        clear hO3 hcur3 hcc3 hb3
        go_wp2
        go_loopw [12] (fun q wr => ∃ (i : Nat) (cs : Array Value), i ≤ l.length ∧ q = .int .i64 (i : Int) ∧ wr.heap[t]? = some (.cells cs 3 (0, 0)) ∧ (∀ j, j < l.length → cs[j]? = some (.int .i64 (if j < i then setV l e j else wdAt l j))) ∧ wr.heap[t3]? = some (.cells cur3 3 (0, 0)) ∧ Below w.heap.size w wr) (fun q _ => l.length - (intOf q).toNat)
        case atStart => exact ⟨0, cur, Nat.zero_le _, rfl, HT3.out, fun j hj => by rw [if_neg (by omega)]; exact HC.out.2 j hj, HC3.out.1, below_next HB2.out HB3.out⟩
        case round =>
          obtain ⟨i, cs, hi, rfl, h1, h2, h3, hbw⟩ := hrel
          have HIC := Lib.hid (And.intro h1 (And.intro h2 h3))
          have HBW := Lib.hid hbw
          clear h1 h2 h3 hbw
          by_cases hlt : i < l.length
          · have li0 := HIC.out.2.1 i hlt
            rw [if_neg (by omega)] at li0
            have hok := HV.out.2 i hlt
            unfold okG at hok
            obtain ⟨k1, k2, _⟩ := hok
            have hsi := HPO.out.2 i hlt
            have hse := HSV.out i
            rw [if_neg (by omega)] at hse
            have ls0 := HC3.out.2 i hlt
            obtain ⟨a, ha⟩ : ∃ a, wdAt l i = a := ⟨_, rfl⟩
            obtain ⟨s, hs⟩ : ∃ s, shareN (stO l o) (strV l o) e i = s := ⟨_, rfl⟩
            rw [ha] at li0 k1 k2
            rw [hs] at hsi ls0
            rw [ha, hs] at hse
            have HSE := Lib.hid hse
            have q1 := hsi.1
            have q2 := hsi.2
            clear ha hs hse hsi
            have li := blk_cell HIC.out.1 i _ li0
            have zi := blk_free HIC.out.1 i
            have ls := blk_cell HIC.out.2.2 i _ ls0
            have s1 : IntKind.i64.wrap (a + s) = a + s := IntWalk.i64_in _ (by omega)
            clear li0 ls0
            go_wp2_with fail
            go_region
            go_wp2
            go_roundw
            case rel =>
              refine ⟨i + 1, cs.setIfInBounds i (.int .i64 (a + s)), by omega, by go_num, ?_, fun j hj => ?_, ?_, ?_⟩
              · exact blk_set HIC.out.1 i _
              · by_cases e : j = i
                · subst e
                  have hsz : j < cs.size := (Array.getElem?_eq_some_iff.1 (HIC.out.2.1 j hj)).1
                  rw [if_pos (by omega), HSE.out]
                  simp [hsz]
                · rw [Array.getElem?_setIfInBounds_ne (by omega), HIC.out.2.1 j hj]
                  by_cases e2 : j < i
                  · rw [if_pos e2, if_pos (by omega)]
                  · rw [if_neg e2, if_neg (by omega)]
              · exact (Below.heap_setCell wr ⟨t, i, none⟩ _ t3 (Ne.symm hne)).trans HIC.out.2.2
              · exact (HBW.out.setCell (p := ⟨t, i, none⟩) ht _).drew
            case measure => simp [intOf]; omega
          · obtain rfl : i = l.length := by omega
            go_wp2
            go_ret2
            refine ⟨⟨_, c1, by rw [HRV.out, if_neg (by omega)]; rfl, ints_blk HIC.out.1 (fun k hk => ?_)⟩, HBW.out⟩
            rw [HIC.out.2.1 k hk, if_pos hk]
end Go.Proofs.Ytjckbdbjcgjcaaa.Gu
/- The reference's shrunk. -/
namespace Go.Proofs.Ytjckbdbjcgjcaaa.Gu
open Go.RowKit
theorem gS_neg (l : List Gl) (E : Int) : gS l (-E) = if shrV l < E then shrV l else E := by unfold gS; rw [Int.neg_neg]
set_option maxRecDepth 100000 in
set_option maxHeartbeats 1000000 in
theorem rshrunk_any {z g : Int} (A : Option Addr) (c : Nat) (l : List Gl) (E : Int) (w : World) (hv : VG l) (h0 : 0 < E) (h1 : E ≤ 2147483647) (hz : shrV l = z) (hg : gS l (-E) = g) (hP : Gls w w.heap.size A l) :
    Calls Try.prog 43 #[.slice A l.length c, .int .i64 E] w (SetTo (setV l (-E)) l.length (restV l (-E)) w) := by
  obtain ⟨i0, hi0, hz0, hz1, hz2⟩ := info_parts infoI
  have HP := Lib.hid hP
  have HV := Lib.hid hv
  have h200 := hv.1
  have HM : Hid (l.length ≤ lenMax) := by show _ ≤ _; unfold lenMax; omega
  have HZZ : Hid (shrZ l = z) := (shrZ_ok hv).trans hz
  have hmin : (if z < E then z else E) = g := by rw [← hg, gS_neg, hz]
  have hzb := shr_bound hv (Nat.le_refl _)
  have hz' : sumN (shAt l) l.length = z := hz
  rw [hz'] at hzb
  have hzb1 := hzb.1
  have hzb2 := hzb.2
  have HRV : Hid (restV l (-E) = g - E) := by show _ = _; unfold restV; rw [if_pos (by omega), hg]; omega
  have hgz : (g = 0 ∧ z = 0) ∨ (0 < g ∧ 0 < z ∧ g ≤ E) := by
    rw [← hmin]
    split <;> omega
  have HSV0 : Hid (∀ k, setV l (-E) k = if g = 0 then wdAt l k else wdAt l k - shareN (shAt l) z g k) := fun k => by unfold setV; rw [if_pos (by omega), hg, hz]
  have HMIN := Lib.hid hmin
  rcases hgz with ⟨hg0, hzz⟩ | ⟨hg0, hzz, hgE⟩
  · subst hg0
    clear hP hv hz hg hz' hzb hmin
    have hmin := HMIN.out
    have e9 : IntKind.i64.wrap (-E) = -E := IntWalk.i64_in _ (by omega)
    go_enter Try.func43, Try.ntmps43
    go_wp2_with fail
    refine (rwidths_any _ _ l _ h200 HP.out).mono ?_
    rintro e1 w1 ⟨⟨A1, c1, rfl, hO1⟩, hb1⟩
    have HO1 := Lib.hid hO1
    have HB1 := Lib.hid hb1
    clear hO1 hb1
    go_wp2_with fail
    refine (rshr_any _ _ l _ HZZ.out HM.out (HP.out.next HB1.out)).mono ?_
    rintro e2 w2 ⟨rfl, hb2⟩
    have hzE : z < E := by omega
    subst hzz
    go_wp2
    go_ret2
    refine ⟨⟨A1, c1, by rw [HRV.out, Int.zero_sub]; rfl, ?_⟩, below_next HB1.out hb2⟩
    have e : mapN (setV l (-E)) l.length = mapN (wdAt l) l.length := by
      unfold mapN
      refine List.map_congr_left (fun k _ => ?_)
      rw [HSV0.out]; simp
    rw [e]
    exact (HO1.out.below hb2).ints
  · have hn0 : 0 < l.length := by
      by_cases h : l.length = 0
      · exfalso
        rw [h] at hz'
        simp [sumN] at hz'
        omega
      · omega
    have hrg : ∀ k, k < l.length → 0 ≤ shAt l k ∧ shAt l k ≤ 1048576 := fun k hk => by have := hv.2 k hk; unfold okG at this; omega
    have hPO := parts_of (g := g) h200 hrg hz' hzz (by omega) (by omega)
    have hSI := fun k hk => share_in (g := g) (k := k) hrg hz' hzz (by omega) (by omega) hk
    have HPO : Hid (PartsOk (mapN (shAt l) l.length) z g ∧ ∀ k, k < l.length → 0 ≤ shareN (shAt l) z g k ∧ shareN (shAt l) z g k ≤ 2147483647) := ⟨hPO, hSI⟩
    have HSV : Hid (∀ k, setV l (-E) k = wdAt l k - shareN (shAt l) z g k) := fun k => by rw [HSV0.out, if_neg (by omega)]
    have hgn : ¬ g = 0 := by omega
    have hgb : (g == 0) = false := beq_eq_false_iff_ne.2 hgn
    have e9 : IntKind.i64.wrap (g - E) = g - E := IntWalk.i64_in _ (by omega)
    clear hP hv hz hg hz' hzb hPO hSI hrg hmin
    have hmin := HMIN.out
    go_enter Try.func43, Try.ntmps43
    go_wp2_with fail
    refine (rwidths_any _ _ l _ h200 HP.out).mono ?_
    rintro e1 w1 ⟨⟨A1, c1, rfl, hO1⟩, hb1⟩
    have HO1 := Lib.hid hO1
    have HB1 := Lib.hid hb1
    clear hO1 hb1
    go_wp2_with fail
    refine (rshr_any _ _ l _ HZZ.out HM.out (HP.out.next HB1.out)).mono ?_
    rintro e2 w2 ⟨rfl, hb2⟩
    have HB2 := Lib.hid (below_next HB1.out hb2)
    obtain ⟨t, cur, rfl, ht, hcur, hcc⟩ := own_block (HO1.out.below hb2) (by rw [mapN_len]; exact hn0)
    rw [mapN_len] at hcc
    have htl : t < w2.heap.size := (Array.getElem?_eq_some_iff.1 hcur).1
    have HC : Hid (w2.heap[t]? = some (.cells cur 3 (0, 0)) ∧ ∀ k, k < l.length → cur[k]? = some (.int .i64 (wdAt l k))) := ⟨hcur, fun k hk => (hcc k hk).trans (by rw [mapN_at _ hk])⟩
    clear hb2 hcur hcc
    go_wp2
    go_loopw [8, 9] (fun v q wr => ∃ (k : Nat) (A' : Option Addr) (c' : Nat), k ≤ l.length ∧ q = .int .i64 (k : Int) ∧ v = .slice A' k c' ∧ Owns wr w2.heap.size 3 A' c' (mapN (shAt l) k) ∧ Below w2.heap.size w2 wr) (fun _ q _ => l.length - (intOf q).toNat)
    case atStart => exact ⟨0, none, 0, Nat.zero_le _, rfl, rfl, Owns.nil _ _ _, Below.refl _ _⟩
    case round =>
      obtain ⟨k, A', c', hk, rfl, rfl, hown, hnx⟩ := hrel
      have HO := Lib.hid hown
      have HNX := Lib.hid hnx
      clear hown hnx
      by_cases hlt : k < l.length
      · obtain ⟨b, off, rfl, hB, hc⟩ := HP.out (by omega)
        have HW := Lib.hid (below_next HB2.out HNX.out)
        have c2' := (HW.out.cell (p := ⟨b, off + k * 4 + 2, none⟩) hB).trans (hc k hlt).2.2.1
        have HMS := Lib.hid (mapN_succ (shAt l) k)
        obtain ⟨a, ha⟩ : ∃ a, shAt l k = a := ⟨_, rfl⟩
        rw [ha] at c2' HMS
        clear ha hc
        go_wp2_with (at_builtin; refine wpList_append_one (z := a) rfl _ _ 26 3 rfl i0 Try.underlying26 hi0 hz0 hz1 hz2 (l := mapN (shAt l) k) (mapN_len _ _).symm rfl (HO.out.alloc _) rfl (heap_alloc_new _ _) (by rw [mapN_len]; omega) (by have := HNX.out.size; simp; omega) ?_; intro A2 c2 w5 hown2 hb5; have HO5 := Lib.hid hown2; have HB5 := Lib.hid hb5; clear hown2 hb5)
        go_roundw
        case rel => exact ⟨k + 1, A2, c2, by omega, by go_num, rfl, by rw [HMS.out]; exact HO5.out, (HNX.out.alloc HNX.out.size _).trans HB5.out⟩
        case measure => simp [intOf]; omega
      · have e1 : k = l.length := by omega
        subst e1
        have hSH := rshares_any A' c' (mapN (shAt l) l.length) z g wr HPO.out.1 HO.out.ints
        rw [mapN_len] at hSH
        have HSH := Lib.hid hSH
        clear hSH hlt hk
        go_wp2_with fail
        refine HSH.out.mono ?_
        rintro e3 w3 ⟨⟨A3, c3, rfl, hO3⟩, hb3⟩
        obtain ⟨t3, cur3, rfl, ht3, hcur3, hcc3⟩ := own_block hO3 (by rw [mapN_len]; exact hn0)
        rw [mapN_len] at hcc3
        have hne : t ≠ t3 := by have := HNX.out.size; omega
        have HB3 := Lib.hid (below_next HNX.out hb3)
        have HC3 : Hid (w3.heap[t3]? = some (.cells cur3 3 (0, 0)) ∧ ∀ k, k < l.length → cur3[k]? = some (.int .i64 (shareN (shAt l) z g k))) := ⟨hcur3, fun k hk => (hcc3 k hk).trans (by rw [mapN_at _ hk, share_map hk])⟩
        have HT3 := Lib.hid ((HB3.out.block t htl).trans HC.out.1)
        clear hO3 hcur3 hcc3 hb3
        go_wp2
        go_loopw [11] (fun q wr => ∃ (i : Nat) (cs : Array Value), i ≤ l.length ∧ q = .int .i64 (i : Int) ∧ wr.heap[t]? = some (.cells cs 3 (0, 0)) ∧ (∀ j, j < l.length → cs[j]? = some (.int .i64 (if j < i then setV l (-E) j else wdAt l j))) ∧ wr.heap[t3]? = some (.cells cur3 3 (0, 0)) ∧ Below w.heap.size w wr) (fun q _ => l.length - (intOf q).toNat)
        case atStart => exact ⟨0, cur, Nat.zero_le _, rfl, HT3.out, fun j hj => by rw [if_neg (by omega)]; exact HC.out.2 j hj, HC3.out.1, below_next HB2.out HB3.out⟩
        case round =>
          obtain ⟨i, cs, hi, rfl, h1, h2, h3, hbw⟩ := hrel
          have HIC := Lib.hid (And.intro h1 (And.intro h2 h3))
          have HBW := Lib.hid hbw
          clear h1 h2 h3 hbw
          by_cases hlt : i < l.length
          · have li0 := HIC.out.2.1 i hlt
            rw [if_neg (by omega)] at li0
            have hok := HV.out.2 i hlt
            unfold okG at hok
            obtain ⟨k1, k2, _⟩ := hok
            have hsi := HPO.out.2 i hlt
            have hse := HSV.out i
            have ls0 := HC3.out.2 i hlt
            obtain ⟨a, ha⟩ : ∃ a, wdAt l i = a := ⟨_, rfl⟩
            obtain ⟨s, hs⟩ : ∃ s, shareN (shAt l) z g i = s := ⟨_, rfl⟩
            rw [ha] at li0 k1 k2
            rw [hs] at hsi ls0
            rw [ha, hs] at hse
            have HSE := Lib.hid hse
            have q1 := hsi.1
            have q2 := hsi.2
            clear ha hs hse hsi
            have li := blk_cell HIC.out.1 i _ li0
            have zi := blk_free HIC.out.1 i
            have ls := blk_cell HIC.out.2.2 i _ ls0
            have s1 : IntKind.i64.wrap (a - s) = a - s := IntWalk.i64_in _ (by omega)
            clear li0 ls0
            go_wp2_with fail
            go_region
            go_wp2
            go_roundw
            case rel =>
              refine ⟨i + 1, cs.setIfInBounds i (.int .i64 (a - s)), by omega, by go_num, ?_, fun j hj => ?_, ?_, ?_⟩
              · exact blk_set HIC.out.1 i _
              · by_cases e : j = i
                · subst e
                  have hsz : j < cs.size := (Array.getElem?_eq_some_iff.1 (HIC.out.2.1 j hj)).1
                  rw [if_pos (by omega), HSE.out]
                  simp [hsz]
                · rw [Array.getElem?_setIfInBounds_ne (by omega), HIC.out.2.1 j hj]
                  by_cases e2 : j < i
                  · rw [if_pos e2, if_pos (by omega)]
                  · rw [if_neg e2, if_neg (by omega)]
              · exact (Below.heap_setCell wr ⟨t, i, none⟩ _ t3 (Ne.symm hne)).trans HIC.out.2.2
              · exact (HBW.out.setCell (p := ⟨t, i, none⟩) ht _).drew
            case measure => simp [intOf]; omega
          · obtain rfl : i = l.length := by omega
            go_wp2
            go_ret2
            refine ⟨⟨_, c1, by rw [HRV.out]; rfl, ints_blk HIC.out.1 (fun k hk => ?_)⟩, HBW.out⟩
            rw [HIC.out.2.1 k hk, if_pos hk]
end Go.Proofs.Ytjckbdbjcgjcaaa.Gu
/- The reference's check and Set. -/
namespace Go.Proofs.Ytjckbdbjcgjcaaa.Gu
open Go.RowKit
def rngW (wd : Int) : Prop := -1073741824 ≤ wd ∧ wd ≤ 1073741824
instance (wd : Int) : Decidable (rngW wd) := by unfold rngW; infer_instance
/-- The error of a list and a width. -/
def errV (l : List Gl) (wd : Int) : Int := if VG l then (if rngW wd then 0 else 2) else 1
theorem err_cases (l : List Gl) (wd : Int) : (VG l ∧ rngW wd ∧ errV l wd = 0) ∨ (VG l ∧ ¬ rngW wd ∧ errV l wd = 2) ∨ (¬ VG l ∧ errV l wd = 1) := by
  unfold errV
  by_cases h : VG l
  · rw [if_pos h]
    by_cases h2 : rngW wd
    · rw [if_pos h2]; exact .inl ⟨h, h2, rfl⟩
    · rw [if_neg h2]; exact .inr (.inl ⟨h, h2, rfl⟩)
  · rw [if_neg h]; exact .inr (.inr ⟨h, rfl⟩)
theorem not_rng {wd : Int} (h : ¬ rngW wd) : wd < -1073741824 ∨ (-1073741824 ≤ wd ∧ 1073741824 < wd) := by unfold rngW at h; omega
theorem rcheck_any {x : Int} (A : Option Addr) (c : Nat) (l : List Gl) (wd : Int) (w : World) (hx : errV l wd = x) (hm : l.length ≤ lenMax) (hP : Gls w w.heap.size A l) :
    Calls Try.prog 41 #[.slice A l.length c, .int .i64 wd] w fun e w' => e = .returned (.int .i64 x) ∧ Below w.heap.size w w' := by
  have HM := Lib.hid hm
  have HP := Lib.hid hP
  clear hm hP
  rcases err_cases l wd with ⟨hv, hr, e⟩ | ⟨hv, hr, e⟩ | ⟨hv, e⟩
  · have HV := Lib.hid hv
    rw [e] at hx
    subst hx
    obtain ⟨h1, h2⟩ := hr
    clear hv e
    go_enter Try.func41, Try.ntmps41
    go_wp2_with fail
    refine (rvalidg_any (r := true) _ _ l _ HM.out HP.out (yes_iff HV.out)).mono ?_
    rintro e w1 ⟨rfl, hb1⟩
    go_wp2
    go_ret
    exact ⟨rfl, hb1⟩
  · have HV := Lib.hid hv
    rw [e] at hx
    subst hx
    have hr' := not_rng hr
    clear hv e hr
    rcases hr' with h1 | ⟨h1, h2⟩
    all_goals
      go_enter Try.func41, Try.ntmps41
      go_wp2_with fail
      refine (rvalidg_any (r := true) _ _ l _ HM.out HP.out (yes_iff HV.out)).mono ?_
      rintro e w1 ⟨rfl, hb1⟩
      go_wp2
      go_ret
      exact ⟨rfl, hb1⟩
  · have HV := Lib.hid hv
    rw [e] at hx
    subst hx
    clear hv e
    go_enter Try.func41, Try.ntmps41
    go_wp2_with fail
    refine (rvalidg_any (r := false) _ _ l _ HM.out HP.out (no_iff HV.out)).mono ?_
    rintro e w1 ⟨rfl, hb1⟩
    go_wp2
    go_ret
    exact ⟨rfl, hb1⟩
/-- What Set answers. -/
def setL (l : List Gl) (wd : Int) : List Int := if VG l ∧ rngW wd then mapN (setV l (wd - natV l)) l.length else []
def setR (l : List Gl) (wd : Int) : Int := if VG l ∧ rngW wd then restV l (wd - natV l) else 0
def SetAns (l : List Gl) (wd : Int) (w : World) (e : Ending) (w' : World) : Prop :=
  (∃ A' c', e = .returned (.tuple #[.slice A' (setL l wd).length c', .int .i64 (setR l wd), .int .i64 (errV l wd)]) ∧ Ints w' w'.heap.size A' (setL l wd)) ∧ Below w.heap.size w w'
theorem setAns_no {l : List Gl} {wd : Int} (h : ¬ (VG l ∧ rngW wd)) : setL l wd = [] ∧ setR l wd = 0 := ⟨if_neg h, if_neg h⟩
theorem setAns_ok {l : List Gl} {wd : Int} (h : VG l ∧ rngW wd) : setL l wd = mapN (setV l (wd - natV l)) l.length ∧ setR l wd = restV l (wd - natV l) ∧ errV l wd = 0 := ⟨if_pos h, if_pos h, by unfold errV; rw [if_pos h.1, if_pos h.2]⟩
theorem e_in {l : List Gl} {wd : Int} (hv : VG l) (hr : rngW wd) : -1283457024 ≤ wd - natV l ∧ wd - natV l ≤ 1283457024 := by
  have := nat_bound hv (Nat.le_refl _)
  unfold rngW at hr
  unfold natV
  omega
set_option maxHeartbeats 1000000 in
theorem rset_any (A : Option Addr) (c : Nat) (l : List Gl) (wd : Int) (w : World) (hm : l.length ≤ lenMax) (hP : Gls w w.heap.size A l) :
    Calls Try.prog 17 #[.slice A l.length c, .int .i64 wd] w (SetAns l wd w) := by
  have HM := Lib.hid hm
  have HP := Lib.hid hP
  clear hm hP
  by_cases hok : VG l ∧ rngW wd
  · obtain ⟨hL, hR, hE⟩ := setAns_ok hok
    unfold SetAns
    rw [hL, hR, hE, mapN_len]
    have hei := e_in hok.1 hok.2
    have HN : Hid (natZ l = natV l) := natZ_ok hok.1
    have HV := Lib.hid hok.1
    have HE := Lib.hid hE
    obtain ⟨n, hn⟩ : ∃ n, natV l = n := ⟨_, rfl⟩
    rw [hn] at hei HN ⊢
    have he1 := hei.1
    have he2 := hei.2
    have s0 : IntKind.i64.wrap (wd - n) = wd - n := IntWalk.i64_in _ (by omega)
    clear hL hR hE hok hn hei
    obtain ⟨e, he⟩ : ∃ e, wd - n = e := ⟨_, rfl⟩
    have s1 : IntKind.i64.wrap (wd - n) = e := s0.trans he
    rw [he] at he1 he2 ⊢
    clear he s0
    by_cases hneg : e < 0
    · obtain ⟨E, rfl⟩ : ∃ E, e = -E := ⟨-e, by omega⟩
      have s2 : IntKind.i64.wrap E = E := IntWalk.i64_in _ (by omega)
      have s3 : -(-E) = E := by omega
      go_enter Try.func17, Try.ntmps17
      go_wp2_with fail
      refine (rcheck_any _ _ l _ _ HE.out HM.out HP.out).mono ?_
      rintro e w1 ⟨rfl, hb1⟩
      have HB1 := Lib.hid hb1
      clear hb1
      go_wp2_with fail
      refine (rnat_any _ _ l _ HN.out HM.out (HP.out.next HB1.out)).mono ?_
      rintro e w2 ⟨rfl, hb2⟩
      have HB2 := Lib.hid (below_next HB1.out hb2)
      clear hb2
      go_wp2_with fail
      refine (rshrunk_any _ _ l E _ HV.out (by omega) (by omega) rfl rfl (HP.out.next HB2.out)).mono ?_
      rintro e w3 ⟨⟨A3, c3, rfl, hI3⟩, hb3⟩
      go_wp2
      go_ret3
      exact ⟨⟨A3, c3, rfl, hI3⟩, below_next HB2.out hb3⟩
    · go_enter Try.func17, Try.ntmps17
      go_wp2_with fail
      refine (rcheck_any _ _ l _ _ HE.out HM.out HP.out).mono ?_
      rintro e w1 ⟨rfl, hb1⟩
      have HB1 := Lib.hid hb1
      clear hb1
      go_wp2_with fail
      refine (rnat_any _ _ l _ HN.out HM.out (HP.out.next HB1.out)).mono ?_
      rintro e w2 ⟨rfl, hb2⟩
      have HB2 := Lib.hid (below_next HB1.out hb2)
      clear hb2
      go_wp2_with fail
      refine (rstretched_any _ _ l e _ HV.out (by omega) (by omega) rfl (HP.out.next HB2.out)).mono ?_
      rintro e w3 ⟨⟨A3, c3, rfl, hI3⟩, hb3⟩
      go_wp2
      go_ret3
      exact ⟨⟨A3, c3, rfl, hI3⟩, below_next HB2.out hb3⟩
  · obtain ⟨hL, hR⟩ := setAns_no hok
    unfold SetAns
    rw [hL, hR]
    obtain ⟨x, hx⟩ : ∃ x, errV l wd = x := ⟨_, rfl⟩
    have hx0 : ¬ x = 0 := by
      rw [← hx]
      rcases err_cases l wd with ⟨h1, h2, _⟩ | ⟨_, _, h⟩ | ⟨_, h⟩
      · exact absurd ⟨h1, h2⟩ hok
      · rw [h]; decide
      · rw [h]; decide
    have b1 : (x == 0) = false := beq_eq_false_iff_ne.2 hx0
    have b2 : (x != 0) = true := by rw [bne_iff_ne]; exact hx0
    rw [hx]
    have HX := Lib.hid hx
    clear hL hR hok hx
    go_enter Try.func17, Try.ntmps17
    go_wp2_with fail
    refine (rcheck_any _ _ l _ _ HX.out HM.out HP.out).mono ?_
    rintro e w1 ⟨rfl, hb1⟩
    go_wp2
    go_ret3
    exact ⟨⟨none, 0, rfl, fun h => absurd h (by simp)⟩, hb1⟩
end Go.Proofs.Ytjckbdbjcgjcaaa.Gu
