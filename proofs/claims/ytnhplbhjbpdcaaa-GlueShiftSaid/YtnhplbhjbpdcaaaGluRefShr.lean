/- The reference's shrunk. -/
import Derived.Test.YtnhplbhjbpdcaaaGluRefSet
namespace Go.Proofs.Ytnhplbhjbpdcaaa
open Go.RowKit
theorem gS_neg (l : List Gl) (E : Int) : gS l (-E) = if shrV l < E then shrV l else E := by unfold gS; rw [Int.neg_neg]
set_option maxRecDepth 100000 in
set_option maxHeartbeats 1000000 in
theorem rshrunk_any {z g : Int} (A : Option Addr) (c : Nat) (l : List Gl) (E : Int) (w : World) (hv : VG l) (h0 : 0 < E) (h1 : E ≤ 2147483647) (hz : shrV l = z) (hg : gS l (-E) = g) (hP : Gls w w.heap.size A l) :
    Calls Try.prog 33 #[.slice A l.length c, .int .i64 E] w (SetTo (setV l (-E)) l.length (restV l (-E)) w) := by
  obtain ⟨i0, hi0, hz0, hz1, hz2⟩ := info_parts infoI
  have HP := Lib.hid hP
  have HV := Lib.hid hv
  have h200 := hv.1
  have HM : Hid (l.length ≤ lenMax) := by show _ ≤ _; unfold lenMax; omega
  have HZZ : Hid (shrZ l = z) := (shrZ_ok hv).trans hz
  have hmin : (if z < E then z else E) = g := by rw [← hg, gS_neg, hz]
  have hzb := shr_bound hv (Nat.le_refl _)
  have hz' : sumN (shAt l) l.length = z := hz
  rw [hz'] at hzb
  have hzb1 := hzb.1
  have hzb2 := hzb.2
  have HRV : Hid (restV l (-E) = g - E) := by show _ = _; unfold restV; rw [if_pos (by omega), hg]; omega
  have hgz : (g = 0 ∧ z = 0) ∨ (0 < g ∧ 0 < z ∧ g ≤ E) := by
    rw [← hmin]
    split <;> omega
  have HSV0 : Hid (∀ k, setV l (-E) k = if g = 0 then wdAt l k else wdAt l k - shareN (shAt l) z g k) := fun k => by unfold setV; rw [if_pos (by omega), hg, hz]
  have HMIN := Lib.hid hmin
  rcases hgz with ⟨hg0, hzz⟩ | ⟨hg0, hzz, hgE⟩
  · subst hg0
    clear hP hv hz hg hz' hzb hmin
    have hmin := HMIN.out
    have e9 : IntKind.i64.wrap (-E) = -E := IntWalk.i64_in _ (by omega)
    go_enter Try.func33, Try.ntmps33
    go_wp2_with fail
    refine (rwidths_any _ _ l _ h200 HP.out).mono ?_
    rintro e1 w1 ⟨⟨A1, c1, rfl, hO1⟩, hb1⟩
    have HO1 := Lib.hid hO1
    have HB1 := Lib.hid hb1
    clear hO1 hb1
    go_wp2_with fail
    refine (rshr_any _ _ l _ HZZ.out HM.out (HP.out.next HB1.out)).mono ?_
    rintro e2 w2 ⟨rfl, hb2⟩
    have hzE : z < E := by omega
    subst hzz
    go_wp2
    go_ret2
    refine ⟨⟨A1, c1, by rw [HRV.out, Int.zero_sub]; rfl, ?_⟩, below_next HB1.out hb2⟩
    have e : mapN (setV l (-E)) l.length = mapN (wdAt l) l.length := by
      unfold mapN
      refine List.map_congr_left (fun k _ => ?_)
      rw [HSV0.out]; simp
    rw [e]
    exact (HO1.out.below hb2).ints
  · have hn0 : 0 < l.length := by
      by_cases h : l.length = 0
      · exfalso
        rw [h] at hz'
        simp [sumN] at hz'
        omega
      · omega
    have hrg : ∀ k, k < l.length → 0 ≤ shAt l k ∧ shAt l k ≤ 1048576 := fun k hk => by have := hv.2 k hk; unfold okG at this; omega
    have hPO := parts_of (g := g) h200 hrg hz' hzz (by omega) (by omega)
    have hSI := fun k hk => share_in (g := g) (k := k) hrg hz' hzz (by omega) (by omega) hk
    have HPO : Hid (PartsOk (mapN (shAt l) l.length) z g ∧ ∀ k, k < l.length → 0 ≤ shareN (shAt l) z g k ∧ shareN (shAt l) z g k ≤ 2147483647) := ⟨hPO, hSI⟩
    have HSV : Hid (∀ k, setV l (-E) k = wdAt l k - shareN (shAt l) z g k) := fun k => by rw [HSV0.out, if_neg (by omega)]
    have hgn : ¬ g = 0 := by omega
    have hgb : (g == 0) = false := beq_eq_false_iff_ne.2 hgn
    have e9 : IntKind.i64.wrap (g - E) = g - E := IntWalk.i64_in _ (by omega)
    clear hP hv hz hg hz' hzb hPO hSI hrg hmin
    have hmin := HMIN.out
    go_enter Try.func33, Try.ntmps33
    go_wp2_with fail
    refine (rwidths_any _ _ l _ h200 HP.out).mono ?_
    rintro e1 w1 ⟨⟨A1, c1, rfl, hO1⟩, hb1⟩
    have HO1 := Lib.hid hO1
    have HB1 := Lib.hid hb1
    clear hO1 hb1
    go_wp2_with fail
    refine (rshr_any _ _ l _ HZZ.out HM.out (HP.out.next HB1.out)).mono ?_
    rintro e2 w2 ⟨rfl, hb2⟩
    have HB2 := Lib.hid (below_next HB1.out hb2)
    obtain ⟨t, cur, rfl, ht, hcur, hcc⟩ := own_block (HO1.out.below hb2) (by rw [mapN_len]; exact hn0)
    rw [mapN_len] at hcc
    have htl : t < w2.heap.size := (Array.getElem?_eq_some_iff.1 hcur).1
    have HC : Hid (w2.heap[t]? = some (.cells cur 3 (0, 0)) ∧ ∀ k, k < l.length → cur[k]? = some (.int .i64 (wdAt l k))) := ⟨hcur, fun k hk => (hcc k hk).trans (by rw [mapN_at _ hk])⟩
    clear hb2 hcur hcc
    go_wp2
    go_loopw [8, 9] (fun v q wr => ∃ (k : Nat) (A' : Option Addr) (c' : Nat), k ≤ l.length ∧ q = .int .i64 (k : Int) ∧ v = .slice A' k c' ∧ Owns wr w2.heap.size 3 A' c' (mapN (shAt l) k) ∧ Below w2.heap.size w2 wr) (fun _ q _ => l.length - (intOf q).toNat)
    case atStart => exact ⟨0, none, 0, Nat.zero_le _, rfl, rfl, Owns.nil _ _ _, Below.refl _ _⟩
    case round =>
      obtain ⟨k, A', c', hk, rfl, rfl, hown, hnx⟩ := hrel
      have HO := Lib.hid hown
      have HNX := Lib.hid hnx
      clear hown hnx
      by_cases hlt : k < l.length
      · obtain ⟨b, off, rfl, hB, hc⟩ := HP.out (by omega)
        have HW := Lib.hid (below_next HB2.out HNX.out)
        have c2' := (HW.out.cell (p := ⟨b, off + k * 4 + 2, none⟩) hB).trans (hc k hlt).2.2.1
        have HMS := Lib.hid (mapN_succ (shAt l) k)
        obtain ⟨a, ha⟩ : ∃ a, shAt l k = a := ⟨_, rfl⟩
        rw [ha] at c2' HMS
        clear ha hc
        go_wp2_with (at_builtin; refine wpList_append_one (z := a) rfl _ _ 28 3 rfl i0 Try.underlying28 hi0 hz0 hz1 hz2 (l := mapN (shAt l) k) (mapN_len _ _).symm rfl (HO.out.alloc _) rfl (heap_alloc_new _ _) (by rw [mapN_len]; omega) (by have := HNX.out.size; simp; omega) ?_; intro A2 c2 w5 hown2 hb5; have HO5 := Lib.hid hown2; have HB5 := Lib.hid hb5; clear hown2 hb5)
        go_roundw
        case rel => exact ⟨k + 1, A2, c2, by omega, by go_num, rfl, by rw [HMS.out]; exact HO5.out, (HNX.out.alloc HNX.out.size _).trans HB5.out⟩
        case measure => simp [intOf]; omega
      · have e1 : k = l.length := by omega
        subst e1
        have hSH := rshares_any A' c' (mapN (shAt l) l.length) z g wr HPO.out.1 HO.out.ints
        rw [mapN_len] at hSH
        have HSH := Lib.hid hSH
        clear hSH hlt hk
        go_wp2_with fail
        refine HSH.out.mono ?_
        rintro e3 w3 ⟨⟨A3, c3, rfl, hO3⟩, hb3⟩
        obtain ⟨t3, cur3, rfl, ht3, hcur3, hcc3⟩ := own_block hO3 (by rw [mapN_len]; exact hn0)
        rw [mapN_len] at hcc3
        have hne : t ≠ t3 := by have := HNX.out.size; omega
        have HB3 := Lib.hid (below_next HNX.out hb3)
        have HC3 : Hid (w3.heap[t3]? = some (.cells cur3 3 (0, 0)) ∧ ∀ k, k < l.length → cur3[k]? = some (.int .i64 (shareN (shAt l) z g k))) := ⟨hcur3, fun k hk => (hcc3 k hk).trans (by rw [mapN_at _ hk, share_map hk])⟩
        have HT3 := Lib.hid ((HB3.out.block t htl).trans HC.out.1)
        clear hO3 hcur3 hcc3 hb3
        go_wp2
        go_loopw [11] (fun q wr => ∃ (i : Nat) (cs : Array Value), i ≤ l.length ∧ q = .int .i64 (i : Int) ∧ wr.heap[t]? = some (.cells cs 3 (0, 0)) ∧ (∀ j, j < l.length → cs[j]? = some (.int .i64 (if j < i then setV l (-E) j else wdAt l j))) ∧ wr.heap[t3]? = some (.cells cur3 3 (0, 0)) ∧ Below w.heap.size w wr) (fun q _ => l.length - (intOf q).toNat)
        case atStart => exact ⟨0, cur, Nat.zero_le _, rfl, HT3.out, fun j hj => by rw [if_neg (by omega)]; exact HC.out.2 j hj, HC3.out.1, below_next HB2.out HB3.out⟩
        case round =>
          obtain ⟨i, cs, hi, rfl, h1, h2, h3, hbw⟩ := hrel
          have HIC := Lib.hid (And.intro h1 (And.intro h2 h3))
          have HBW := Lib.hid hbw
          clear h1 h2 h3 hbw
          by_cases hlt : i < l.length
          · have li0 := HIC.out.2.1 i hlt
            rw [if_neg (by omega)] at li0
            have hok := HV.out.2 i hlt
            unfold okG at hok
            obtain ⟨k1, k2, _⟩ := hok
            have hsi := HPO.out.2 i hlt
            have hse := HSV.out i
            have ls0 := HC3.out.2 i hlt
            obtain ⟨a, ha⟩ : ∃ a, wdAt l i = a := ⟨_, rfl⟩
            obtain ⟨s, hs⟩ : ∃ s, shareN (shAt l) z g i = s := ⟨_, rfl⟩
            rw [ha] at li0 k1 k2
            rw [hs] at hsi ls0
            rw [ha, hs] at hse
            have HSE := Lib.hid hse
            have q1 := hsi.1
            have q2 := hsi.2
            clear ha hs hse hsi
            have li := blk_cell HIC.out.1 i _ li0
            have zi := blk_free HIC.out.1 i
            have ls := blk_cell HIC.out.2.2 i _ ls0
            have s1 : IntKind.i64.wrap (a - s) = a - s := IntWalk.i64_in _ (by omega)
            clear li0 ls0
            go_wp2_with fail
            go_region
            go_wp2
            go_roundw
            case rel =>
              refine ⟨i + 1, cs.setIfInBounds i (.int .i64 (a - s)), by omega, by go_num, ?_, fun j hj => ?_, ?_, ?_⟩
              · exact blk_set HIC.out.1 i _
              · by_cases e : j = i
                · subst e
                  have hsz : j < cs.size := (Array.getElem?_eq_some_iff.1 (HIC.out.2.1 j hj)).1
                  rw [if_pos (by omega), HSE.out]
                  simp [hsz]
                · rw [Array.getElem?_setIfInBounds_ne (by omega), HIC.out.2.1 j hj]
                  by_cases e2 : j < i
                  · rw [if_pos e2, if_pos (by omega)]
                  · rw [if_neg e2, if_neg (by omega)]
              · exact (Below.heap_setCell wr ⟨t, i, none⟩ _ t3 (Ne.symm hne)).trans HIC.out.2.2
              · exact (HBW.out.setCell (p := ⟨t, i, none⟩) ht _).drew
            case measure => simp [intOf]; omega
          · obtain rfl : i = l.length := by omega
            go_wp2
            go_ret2
            refine ⟨⟨_, c1, by rw [HRV.out]; rfl, ints_blk HIC.out.1 (fun k hk => ?_)⟩, HBW.out⟩
            rw [HIC.out.2.1 k hk, if_pos hk]
end Go.Proofs.Ytnhplbhjbpdcaaa
