/- The reference's stretched, shrunk, check and Set. -/
import Derived.Test.YtnhplbhjbpdcaaaGluRefSh
namespace Go.Proofs.Ytnhplbhjbpdcaaa
open Go.RowKit
/-- By how much a list is shrunk. -/
def gS (l : List Gl) (e : Int) : Int := if shrV l < -e then shrV l else -e
/-- The width of element k of a list that is set to e more than its natural width. -/
def setV (l : List Gl) (e : Int) (k : Nat) : Int :=
  if e < 0 then (if gS l e = 0 then wdAt l k else wdAt l k - shareN (shAt l) (shrV l) (gS l e) k)
  else (if ordZ l < 0 then wdAt l k else wdAt l k + shareN (stO l (ordZ l)) (strV l (ordZ l)) e k)
def restV (l : List Gl) (e : Int) : Int := if e < 0 then gS l e + e else if ordZ l < 0 then e else 0
theorem ordN_cases (l : List Gl) : ∀ n : Nat, ordN l n = -1 ∨ (∃ m : Nat, m < n ∧ ordN l n = m ∧ strZ l m ≠ 0)
  | 0 => .inl rfl
  | n + 1 => by
    unfold ordN
    by_cases h : strZ l n = 0
    · rw [if_pos h]
      rcases ordN_cases l n with h1 | ⟨m, h1, h2, h3⟩
      · exact .inl h1
      · exact .inr ⟨m, by omega, h2, h3⟩
    · rw [if_neg h]
      exact .inr ⟨n, by omega, rfl, h⟩
theorem ordZ_cases (l : List Gl) : ordZ l = -1 ∨ (0 ≤ ordZ l ∧ ordZ l ≤ 3 ∧ 0 < strZ l (ordZ l)) := by
  rcases ordN_cases l 4 with h | ⟨m, h1, h2, h3⟩
  · exact .inl h
  · right
    unfold ordZ
    rw [h2]
    have := strZ_pos l (m : Int)
    omega
theorem strZ_ok {l : List Gl} (h : VG l) (o : Int) : strZ l o = strV l o := if_pos h
theorem shrZ_ok {l : List Gl} (h : VG l) : shrZ l = shrV l := if_pos h
theorem natZ_ok {l : List Gl} (h : VG l) : natZ l = natV l := if_pos h
theorem sum_map {f : Nat → Int} {n : Nat} {k : Nat} (hk : k ≤ n) : sumN (lAt (mapN f n)) k = sumN f k := sumN_congr k (fun j hj => mapN_at f (by omega))
theorem share_map {f : Nat → Int} {n : Nat} {T g : Int} {k : Nat} (hk : k < n) : shareN (lAt (mapN f n)) T g k = shareN f T g k := by
  unfold shareN cumN
  rw [sum_map (by omega), sum_map (by omega)]
theorem parts_of {f : Nat → Int} {n : Nat} {T g : Int} (hn : n ≤ 200) (h : ∀ k, k < n → 0 ≤ f k ∧ f k ≤ 1048576) (ht : sumN f n = T) (hp : 0 < T) (h0 : 0 ≤ g) (h1 : g ≤ 2147483647) : PartsOk (mapN f n) T g :=
  ⟨by rw [mapN_len]; exact hn, fun k hk => by rw [mapN_len] at hk; rw [mapN_at f hk]; exact h k hk, by rw [mapN_len, sum_map (Nat.le_refl _)]; exact ht, hp, h0, h1⟩
theorem share_in {f : Nat → Int} {n : Nat} {T g : Int} (h : ∀ k, k < n → 0 ≤ f k ∧ f k ≤ 1048576) (ht : sumN f n = T) (hp : 0 < T) (h0 : 0 ≤ g) (h1 : g ≤ 2147483647) {k : Nat} (hk : k < n) : 0 ≤ shareN f T g k ∧ shareN f T g k ≤ 2147483647 := by
  have a0 := sumN_pos (f := f) k (fun j hj => (h j (by omega)).1)
  have a1 := sumN_le (f := f) (n := n) (fun j hj => (h j hj).1) (show k + 1 ≤ n by omega)
  have a2 := h k hk
  have a3 : sumN f (k + 1) = sumN f k + f k := rfl
  have b1 := cum_in h0 h1 (s := sumN f (k + 1)) (T := T) (by omega) (by omega) hp
  have b2 := cum_in h0 h1 (s := sumN f k) (T := T) a0 (by omega) hp
  have b3 : g * sumN f k / T ≤ g * sumN f (k + 1) / T := Int.ediv_le_ediv hp (Int.mul_le_mul_of_nonneg_left (by omega) h0)
  unfold shareN cumN
  omega
def SetTo (f : Nat → Int) (n : Nat) (x : Int) (w : World) (e : Ending) (w' : World) : Prop := (∃ A' c', e = .returned (.tuple #[.slice A' n c', .int .i64 x]) ∧ Ints w' w'.heap.size A' (mapN f n)) ∧ Below w.heap.size w w'
theorem ints_own {w : World} {base c : Nat} {A : Option Addr} {f : Nat → Int} {n : Nat} (h : Owns w base 3 A c (mapN f n)) : Ints w w.heap.size A (mapN f n) := h.ints
theorem ints_blk {w : World} {b : Nat} {cs : Array Value} {f : Nat → Int} {n : Nat} (h : w.heap[b]? = some (.cells cs 3 (0, 0))) (hc : ∀ k, k < n → cs[k]? = some (.int .i64 (f k))) : Ints w w.heap.size (some ⟨b, 0, none⟩) (mapN f n) := fun _ =>
  ⟨b, 0, rfl, (Array.getElem?_eq_some_iff.1 h).1, fun k hk => by
    rw [mapN_len] at hk
    rw [mapN_at f hk, Nat.zero_add]
    exact blk_cell h k _ (hc k hk)⟩
set_option maxRecDepth 100000 in
set_option maxHeartbeats 1000000 in
theorem rstretched_any {o : Int} (A : Option Addr) (c : Nat) (l : List Gl) (e : Int) (w : World) (hv : VG l) (h0 : 0 ≤ e) (h1 : e ≤ 2147483647) (ho : ordZ l = o) (hP : Gls w w.heap.size A l) :
    Calls Try.prog 34 #[.slice A l.length c, .int .i64 e] w (SetTo (setV l e) l.length (restV l e) w) := by
  obtain ⟨i0, hi0, hz0, hz1, hz2⟩ := info_parts infoI
  have HP := Lib.hid hP
  have HV := Lib.hid hv
  have HO0 := Lib.hid ho
  have h200 := hv.1
  have HM : Hid (l.length ≤ lenMax) := by show _ ≤ _; unfold lenMax; omega
  have hoc := ordZ_cases l
  rw [ho] at hoc
  have HSV : Hid (∀ k, setV l e k = if o < 0 then wdAt l k else wdAt l k + shareN (stO l o) (strV l o) e k) := fun k => by unfold setV; rw [if_neg (by omega), ho]
  have HRV : Hid (restV l e = if o < 0 then e else 0) := by show _ = _; unfold restV; rw [if_neg (by omega), ho]
  clear hP hv ho
  rcases hoc with hoc | ⟨hoc, hoc3, hpos⟩
  · subst hoc
    go_enter Try.func34, Try.ntmps34
    go_wp2_with fail
    refine (rwidths_any _ _ l _ h200 HP.out).mono ?_
    rintro e1 w1 ⟨⟨A1, c1, rfl, hO1⟩, hb1⟩
    have HO1 := Lib.hid hO1
    have HB1 := Lib.hid hb1
    clear hO1 hb1
    go_wp2_with fail
    refine (rord_any _ _ l _ HO0.out HM.out (HP.out.next HB1.out)).mono ?_
    rintro e2 w2 ⟨rfl, hb2⟩
    go_wp2
    go_ret2
    refine ⟨⟨A1, c1, by rw [HRV.out, if_pos (by omega)]; rfl, ?_⟩, below_next HB1.out hb2⟩
    have e : mapN (setV l e) l.length = mapN (wdAt l) l.length := by
      unfold mapN
      refine List.map_congr_left (fun k _ => ?_)
      rw [HSV.out, if_pos (by omega)]
    rw [e]
    exact (HO1.out.below hb2).ints
  · have hn0 : 0 < l.length := by
      by_cases h : l.length = 0
      · exfalso
        rw [strZ_ok HV.out] at hpos
        unfold strV at hpos
        rw [h] at hpos
        simp [sumN] at hpos
      · omega
    rw [strZ_ok HV.out] at hpos
    have hPO := parts_of (g := e) h200 (fun k hk => stO_range HV.out o hk) (show sumN (stO l o) l.length = strV l o from rfl) hpos h0 h1
    have hSI := fun k hk => share_in (g := e) (k := k) (fun k hk => stO_range HV.out o hk) (show sumN (stO l o) l.length = strV l o from rfl) hpos h0 h1 hk
    have HPO := Lib.hid (And.intro hPO hSI)
    clear hPO hSI hpos
    go_enter Try.func34, Try.ntmps34
    go_wp2_with fail
    refine (rwidths_any _ _ l _ h200 HP.out).mono ?_
    rintro e1 w1 ⟨⟨A1, c1, rfl, hO1⟩, hb1⟩
    have HO1 := Lib.hid hO1
    have HB1 := Lib.hid hb1
    clear hO1 hb1
    go_wp2_with fail
    refine (rord_any _ _ l _ HO0.out HM.out (HP.out.next HB1.out)).mono ?_
    rintro e2 w2 ⟨rfl, hb2⟩
    have HB2 := Lib.hid (below_next HB1.out hb2)
    obtain ⟨t, cur, rfl, ht, hcur, hcc⟩ := own_block (HO1.out.below hb2) (by rw [mapN_len]; exact hn0)
    rw [mapN_len] at hcc
    have htl : t < w2.heap.size := (Array.getElem?_eq_some_iff.1 hcur).1
    have HC : Hid (w2.heap[t]? = some (.cells cur 3 (0, 0)) ∧ ∀ k, k < l.length → cur[k]? = some (.int .i64 (wdAt l k))) := ⟨hcur, fun k hk => (hcc k hk).trans (by rw [mapN_at _ hk])⟩
    clear hb2 hcur hcc
    go_wp2
    go_loopw [8, 9] (fun v q wr => ∃ (k : Nat) (A' : Option Addr) (c' : Nat), k ≤ l.length ∧ q = .int .i64 (k : Int) ∧ v = .slice A' k c' ∧ Owns wr w2.heap.size 3 A' c' (mapN (stO l o) k) ∧ Below w2.heap.size w2 wr) (fun _ q _ => l.length - (intOf q).toNat)
    case atStart => exact ⟨0, none, 0, Nat.zero_le _, rfl, rfl, Owns.nil _ _ _, Below.refl _ _⟩
    case round =>
      obtain ⟨k, A', c', hk, rfl, rfl, hown, hnx⟩ := hrel
      have HO := Lib.hid hown
      have HNX := Lib.hid hnx
      clear hown hnx
      by_cases hlt : k < l.length
      · obtain ⟨b, off, rfl, hB, hc⟩ := HP.out (by omega)
        have HW := Lib.hid (below_next HB2.out HNX.out)
        have c1' := (HW.out.cell (p := ⟨b, off + k * 4 + 1, none⟩) hB).trans (hc k hlt).2.1
        have c3' := (HW.out.cell (p := ⟨b, off + k * 4 + 3, none⟩) hB).trans (hc k hlt).2.2.2
        have HMS := Lib.hid (mapN_succ (stO l o) k)
        have hso : stO l o k = if odAt l k = o then stAt l k else 0 := rfl
        rw [hso] at HMS
        obtain ⟨a, ha⟩ : ∃ a, stAt l k = a := ⟨_, rfl⟩
        obtain ⟨d, hd⟩ : ∃ d, odAt l k = d := ⟨_, rfl⟩
        rw [ha] at c1' HMS
        rw [hd] at c3' HMS
        clear ha hd hc hso
        by_cases hdo : d = o
        · rw [if_pos hdo] at HMS
          subst hdo
          go_wp2_with (at_builtin; refine wpList_append_one (z := a) rfl _ _ 28 3 rfl i0 Try.underlying28 hi0 hz0 hz1 hz2 (l := mapN (stO l d) k) (mapN_len _ _).symm rfl (HO.out.alloc _) rfl (heap_alloc_new _ _) (by rw [mapN_len]; omega) (by have := HNX.out.size; simp; omega) ?_; intro A2 c2 w5 hown2 hb5; have HO5 := Lib.hid hown2; have HB5 := Lib.hid hb5; clear hown2 hb5)
          go_roundw
          case rel => exact ⟨k + 1, A2, c2, by omega, by go_num, rfl, by rw [HMS.out]; exact HO5.out, (HNX.out.alloc HNX.out.size _).trans HB5.out⟩
          case measure => simp [intOf]; omega
        · rw [if_neg hdo] at HMS
          have b1 : (d == o) = false := beq_eq_false_iff_ne.2 hdo
          go_wp2_with (at_builtin; refine wpList_append_one (z := 0) rfl _ _ 28 3 rfl i0 Try.underlying28 hi0 hz0 hz1 hz2 (l := mapN (stO l o) k) (mapN_len _ _).symm rfl (HO.out.alloc _) rfl (heap_alloc_new _ _) (by rw [mapN_len]; omega) (by have := HNX.out.size; simp; omega) ?_; intro A2 c2 w5 hown2 hb5; have HO5 := Lib.hid hown2; have HB5 := Lib.hid hb5; clear hown2 hb5)
          go_roundw
          case rel => exact ⟨k + 1, A2, c2, by omega, by go_num, rfl, by rw [HMS.out]; exact HO5.out, (HNX.out.alloc HNX.out.size _).trans HB5.out⟩
          case measure => simp [intOf]; omega
      · have e1 : k = l.length := by omega
        subst e1
        have hSH := rshares_any A' c' (mapN (stO l o) l.length) (strV l o) e wr HPO.out.1 HO.out.ints
        rw [mapN_len] at hSH
        have HSH := Lib.hid hSH
        clear hSH hlt hk
        go_wp2_with fail
        refine HSH.out.mono ?_
        rintro e3 w3 ⟨⟨A3, c3, rfl, hO3⟩, hb3⟩
        obtain ⟨t3, cur3, rfl, ht3, hcur3, hcc3⟩ := own_block hO3 (by rw [mapN_len]; exact hn0)
        rw [mapN_len] at hcc3
        have hne : t ≠ t3 := by have := HNX.out.size; omega
        have HB3 := Lib.hid (below_next HNX.out hb3)
        have HC3 : Hid (w3.heap[t3]? = some (.cells cur3 3 (0, 0)) ∧ ∀ k, k < l.length → cur3[k]? = some (.int .i64 (shareN (stO l o) (strV l o) e k))) := ⟨hcur3, fun k hk => (hcc3 k hk).trans (by rw [mapN_at _ hk, share_map hk])⟩
        have HT3 := Lib.hid ((HB3.out.block t htl).trans HC.out.1)
        clear hO3 hcur3 hcc3 hb3
        go_wp2
        go_loopw [12] (fun q wr => ∃ (i : Nat) (cs : Array Value), i ≤ l.length ∧ q = .int .i64 (i : Int) ∧ wr.heap[t]? = some (.cells cs 3 (0, 0)) ∧ (∀ j, j < l.length → cs[j]? = some (.int .i64 (if j < i then setV l e j else wdAt l j))) ∧ wr.heap[t3]? = some (.cells cur3 3 (0, 0)) ∧ Below w.heap.size w wr) (fun q _ => l.length - (intOf q).toNat)
        case atStart => exact ⟨0, cur, Nat.zero_le _, rfl, HT3.out, fun j hj => by rw [if_neg (by omega)]; exact HC.out.2 j hj, HC3.out.1, below_next HB2.out HB3.out⟩
        case round =>
          obtain ⟨i, cs, hi, rfl, h1, h2, h3, hbw⟩ := hrel
          have HIC := Lib.hid (And.intro h1 (And.intro h2 h3))
          have HBW := Lib.hid hbw
          clear h1 h2 h3 hbw
          by_cases hlt : i < l.length
          · have li0 := HIC.out.2.1 i hlt
            rw [if_neg (by omega)] at li0
            have hok := HV.out.2 i hlt
            unfold okG at hok
            obtain ⟨k1, k2, _⟩ := hok
            have hsi := HPO.out.2 i hlt
            have hse := HSV.out i
            rw [if_neg (by omega)] at hse
            have ls0 := HC3.out.2 i hlt
            obtain ⟨a, ha⟩ : ∃ a, wdAt l i = a := ⟨_, rfl⟩
            obtain ⟨s, hs⟩ : ∃ s, shareN (stO l o) (strV l o) e i = s := ⟨_, rfl⟩
            rw [ha] at li0 k1 k2
            rw [hs] at hsi ls0
            rw [ha, hs] at hse
            have HSE := Lib.hid hse
            have q1 := hsi.1
            have q2 := hsi.2
            clear ha hs hse hsi
            have li := blk_cell HIC.out.1 i _ li0
            have zi := blk_free HIC.out.1 i
            have ls := blk_cell HIC.out.2.2 i _ ls0
            have s1 : IntKind.i64.wrap (a + s) = a + s := IntWalk.i64_in _ (by omega)
            clear li0 ls0
            go_wp2_with fail
            go_region
            go_wp2
            go_roundw
            case rel =>
              refine ⟨i + 1, cs.setIfInBounds i (.int .i64 (a + s)), by omega, by go_num, ?_, fun j hj => ?_, ?_, ?_⟩
              · exact blk_set HIC.out.1 i _
              · by_cases e : j = i
                · subst e
                  have hsz : j < cs.size := (Array.getElem?_eq_some_iff.1 (HIC.out.2.1 j hj)).1
                  rw [if_pos (by omega), HSE.out]
                  simp [hsz]
                · rw [Array.getElem?_setIfInBounds_ne (by omega), HIC.out.2.1 j hj]
                  by_cases e2 : j < i
                  · rw [if_pos e2, if_pos (by omega)]
                  · rw [if_neg e2, if_neg (by omega)]
              · exact (Below.heap_setCell wr ⟨t, i, none⟩ _ t3 (Ne.symm hne)).trans HIC.out.2.2
              · exact (HBW.out.setCell (p := ⟨t, i, none⟩) ht _).drew
            case measure => simp [intOf]; omega
          · obtain rfl : i = l.length := by omega
            go_wp2
            go_ret2
            refine ⟨⟨_, c1, by rw [HRV.out, if_neg (by omega)]; rfl, ints_blk HIC.out.1 (fun k hk => ?_)⟩, HBW.out⟩
            rw [HIC.out.2.1 k hk, if_pos hk]
end Go.Proofs.Ytnhplbhjbpdcaaa
