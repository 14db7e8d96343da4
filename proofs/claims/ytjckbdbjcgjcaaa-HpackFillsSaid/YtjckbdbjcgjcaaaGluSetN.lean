/- The program's Set: the branches without a range. -/
import Derived.Test.YtjckbdbjcgjcaaaGluSetBase
namespace Go.Proofs.Ytjckbdbjcgjcaaa.Gu
open Go.RowKit
attribute [local go_sem] Oper.semAt_some
set_option maxRecDepth 100000 in
set_option maxHeartbeats 2000000 in
theorem gset_n1 {e o z : Int} (A : Option Addr) (c : Nat) (l : List Gl) (wd : Int) (w : World) (hv : VG l) (hr : rngW wd) (he : wd - natV l = e) (ho : ordZ l = o) (hz : shrV l = z) (hx : e = 0) (hP : Gls w w.heap.size A l) :
    Calls Try.prog 31 #[.slice A l.length c, .int .i64 wd] w fun e' w' => (∃ A' c', e' = .returned (.tuple #[.slice A' l.length c', .int .i64 e, .int .i64 0]) ∧ Ints w' w'.heap.size A' (mapN (setV l e) l.length)) ∧ Below w.heap.size w w' := by
  have h200 := hv.1
  have hei := e_in hv hr
  rw [he] at hei
  have he1 := hei.1
  have he2 := hei.2
  have hr1 := hr.1
  have hr2 := hr.2
  have HM : Hid (l.length ≤ lenMax) := by show _ ≤ _; unfold lenMax; omega
  have HV := Lib.hid hv
  have HP := Lib.hid hP
  have HO := Lib.hid ho
  have HN : Hid (natZ l = natV l) := natZ_ok hv
  have HSH : Hid (shrZ l = shrV l) := shrZ_ok hv
  have HSV : Hid (∀ k, setV l e k = wdAt l k) := fun k => by
    unfold setV
    rw [if_neg (by omega), ho]
    split
    · rfl
    · rw [hx]; unfold shareN cumN; simp
  obtain ⟨n, hn⟩ : ∃ n, natV l = n := ⟨_, rfl⟩
  rw [hn] at HN he
  rw [hz] at HSH
  have s0 : IntKind.i64.wrap (wd - n) = e := by rw [IntWalk.i64_in _ (by omega)]; exact he
  have hd1 : decide (wd < -1073741824) = false := decide_eq_false (by omega)
  have hd2 : decide (1073741824 < wd) = false := decide_eq_false (by omega)
  have hmi := make_ints l.length (by omega)
  have hd3 : decide (0 < e) = false := decide_eq_false (by omega)
  have hd5 : decide (e < 0) = false := decide_eq_false (by omega)
  clear hv hr hP ho hei hn hz he he1 he2 hx 
  refine (callsIn_wide (n := 4)).1 ?_
  obtain ⟨F, hF⟩ : ∃ F, F = Fence.wide := ⟨_, rfl⟩
  have hro : F.round = none := by rw [hF]; rfl
  have hfn : ∀ k, F.fn k := fun k => by rw [hF]; trivial
  rw [← hF]
  have HF := Lib.hid hF
  clear hF
  refine callsIn_of_wp_marks Try.func31 rfl (hfn _) ?_ hro
  simp only [Try.ntmps31, List.size_toArray, List.length_cons, List.length_nil, Nat.reduceAdd, Nat.reduceSub, Array.replicate_succ, Array.replicate_zero, List.push_toArray, List.append_toArray, List.nil_append, List.cons_append]
  gi_wp2_with (gi_at_call 29; refine (inWide HF.out (gvalid_any (r := true) _ _ l _ HM.out HP.out (yes_iff HV.out))).mono ?_; rintro e' w1 ⟨rfl, hb1⟩; have HB1 := Lib.hid hb1; clear hb1)
  obtain ⟨t, ht⟩ : ∃ t, t = w1.heap.size := ⟨_, rfl⟩
  have htw : w.heap.size ≤ t := by rw [ht]; exact HB1.out.size
  have k0 : ((w1.alloc (.cells (madeCells #[.int .i64 0] l.length) 3)).alloc (.cells #[.slice (some ⟨t, 0, none⟩) l.length l.length] 26)).heap[t]? = some (.cells (madeCells #[.int .i64 0] l.length) 3 (0, 0)) := by
    rw [ht]; exact (Below.heap_alloc _ _ _ (by simp)).trans (World.alloc_heap_new w1 _)
  have k1 : ((w1.alloc (.cells (madeCells #[.int .i64 0] l.length) 3)).alloc (.cells #[.slice (some ⟨t, 0, none⟩) l.length l.length] 26)).heap[t + 1]? = some (.cells #[.slice (some ⟨t, 0, none⟩) l.length l.length] 26 (0, 0)) := by
    have := World.alloc_heap_new (w1.alloc (.cells (madeCells #[.int .i64 0] l.length) 3)) (.cells #[.slice (some ⟨t, 0, none⟩) l.length l.length] 26)
    rw [World.size_alloc, ← ht] at this
    exact this
  have kB : Below w.heap.size w ((w1.alloc (.cells (madeCells #[.int .i64 0] l.length) 3)).alloc (.cells #[.slice (some ⟨t, 0, none⟩) l.length l.length] 26)) := below_next HB1.out (two_below _ _ _)
  have ks : ((w1.alloc (.cells (madeCells #[.int .i64 0] l.length) 3)).alloc (.cells #[.slice (some ⟨t, 0, none⟩) l.length l.length] 26)).heap.size = t + 2 := by rw [ht]; simp
  rw [← ht] at ⊢
  generalize ((w1.alloc (.cells (madeCells #[.int .i64 0] l.length) 3)).alloc (.cells #[.slice (some ⟨t, 0, none⟩) l.length l.length] 26)) = W0 at k0 k1 kB ks ⊢
  have HK := Lib.hid (And.intro k0 (And.intro k1 kB))
  have HKS := Lib.hid ks
  clear k0 k1 kB ks ht hmi
  gi_loopw [34] (fun q wr => ∃ (k : Nat) (cs : Array Value), k ≤ l.length ∧ q = .int .i64 (k : Int) ∧ wr.heap[t]? = some (.cells cs 3 (0, 0)) ∧ (∀ j, j < l.length → cs[j]? = some (.int .i64 (if j < k then wdAt l j else 0))) ∧ wr.heap[t + 1]? = some (.cells #[.slice (some ⟨t, 0, none⟩) l.length l.length] 26 (0, 0)) ∧ Below w.heap.size w wr) (fun q _ => l.length - (intOf q).toNat)
  case atStart => exact ⟨0, _, Nat.zero_le _, rfl, HK.out.1, fun j hj => by rw [if_neg (by omega)]; simp [madeCells, Nat.mod_one, hj], HK.out.2.1, HK.out.2.2⟩
  case round =>
    obtain ⟨k, cs, hk, rfl, h1, h2, h3, hbw⟩ := hrel
    have HIC := Lib.hid (And.intro h1 (And.intro h2 h3))
    have HBW := Lib.hid hbw
    have hlt1 : t + 1 < wr.heap.size := (Array.getElem?_eq_some_iff.1 h3).1
    have e7 := blk_cell h3 0 _ rfl
    have z7 := blk_free h1 k
    clear h1 h2 h3 hbw
    by_cases hlt : k < l.length
    · obtain ⟨b, off, rfl, hB, hc⟩ := HP.out (by omega)
      obtain ⟨c0, c1, c2, c3⟩ := hc k hlt
      replace c0 := (HBW.out.cell (p := ⟨b, off + k * 4, none⟩) hB).trans c0
      replace c1 := (HBW.out.cell (p := ⟨b, off + k * 4 + 1, none⟩) hB).trans c1
      replace c2 := (HBW.out.cell (p := ⟨b, off + k * 4 + 2, none⟩) hB).trans c2
      replace c3 := (HBW.out.cell (p := ⟨b, off + k * 4 + 3, none⟩) hB).trans c3
      obtain ⟨a, ha⟩ : ∃ a, wdAt l k = a := ⟨_, rfl⟩
      obtain ⟨s, hs⟩ : ∃ s, stAt l k = s := ⟨_, rfl⟩
      obtain ⟨q, hq⟩ : ∃ q, shAt l k = q := ⟨_, rfl⟩
      obtain ⟨d, hd⟩ : ∃ d, odAt l k = d := ⟨_, rfl⟩
      rw [ha] at c0
      rw [hs] at c1
      rw [hq] at c2
      rw [hd] at c3
      have HA := Lib.hid ha
      have hAL : Below wr.heap.size wr (wr.alloc (.cells #[.int .i64 a, .int .i64 s, .int .i64 q, .int .i64 d] 64)) := one_below _ _
      have e8 := (hAL.cell (p := ⟨t + 1, 0, none⟩) hlt1).trans e7
      have z8 : (wr.alloc (.cells #[.int .i64 a, .int .i64 s, .int .i64 q, .int .i64 d] 64)).frozen? ⟨t, k, none⟩ = false := blk_free ((hAL.block t (by omega)).trans HIC.out.1) k
      have e9 := blk_cell ((hAL.block t (by omega)).trans HIC.out.1) k _ (HIC.out.2.1 k hlt)
      have HAL := Lib.hid hAL
      clear ha hs hq hd hc hAL
      gi_wp2
      go_roundw
      case rel =>
        refine ⟨k + 1, cs.setIfInBounds k (.int .i64 a), by omega, by go_num, ?_, fun j hj => ?_, ?_, ?_⟩
        · exact blk_set ((HAL.out.block t (by omega)).trans HIC.out.1) k _
        · by_cases e : j = k
          · subst e
            have hsz : j < cs.size := (Array.getElem?_eq_some_iff.1 (HIC.out.2.1 j hj)).1
            rw [if_pos (by omega), HA.out]
            simp [hsz]
          · rw [Array.getElem?_setIfInBounds_ne (by omega), HIC.out.2.1 j hj]
            by_cases e2 : j < k
            · rw [if_pos e2, if_pos (by omega)]
            · rw [if_neg e2, if_neg (by omega)]
        · exact (Below.heap_setCell _ ⟨t, k, none⟩ _ (t + 1) (by show t + 1 ≠ t; omega)).trans ((HAL.out.block (t + 1) hlt1).trans HIC.out.2.2)
        · exact (below_next HBW.out HAL.out).setCell (p := ⟨t, k, none⟩) htw _
      case measure => simp [intOf]; omega
    · have e1 : (k : Int) = (l.length : Int) := by omega
      have HCS : Hid (∀ j, j < l.length → cs[j]? = some (.int .i64 (wdAt l j))) := fun j hj => by rw [HIC.out.2.1 j hj, if_pos (by omega)]
      rw [e1]
      clear e1 hlt hk
      have HT0 := Lib.hid (And.intro HIC.out.1 HIC.out.2.2)
      have htl : t + 1 < wr.heap.size := hlt1
      clear e7 z7 hlt1 HIC
      gi_wp2_with (gi_at_call 51; refine (inWide HF.out (gnat_any _ _ l _ HN.out HM.out (HP.out.next HBW.out))).mono ?_; rintro e' w2 ⟨rfl, hb2⟩; have HB2 := Lib.hid hb2; have HW2 := Lib.hid (below_next HBW.out hb2); clear hb2)
      gi_wp2_with (gi_at_call 52; refine (inWide HF.out (ggreat_any _ _ l _ HO.out HM.out (HP.out.next HW2.out))).mono ?_; rintro e' w3 ⟨rfl, hb3⟩; have HB3 := Lib.hid (below_next HB2.out hb3); have HW3 := Lib.hid (below_next HW2.out hb3); clear hb3)
      gi_wp2_with (gi_at_call 53; refine (inWide HF.out (gshr_any _ _ l _ HSH.out HM.out (HP.out.next HW3.out))).mono ?_; rintro e' w4 ⟨rfl, hb4⟩; have e7 := blk_cell (((below_next HB3.out hb4).block (t + 1) htl).trans HT0.out.2) 0 _ rfl; have HB4 := Lib.hid (below_next HB3.out hb4); have HW4 := Lib.hid (below_next HW3.out hb4); clear hb4)
      refine ⟨.tuple #[.slice (some ⟨t, 0, none⟩) l.length l.length, .int .i64 e, .int .i64 0], ?_, ⟨_, _, rfl, ?_⟩, HW4.out⟩
      · simp [results, Try.f31, go_sem]
      · refine ints_blk ((HB4.out.block t (by omega)).trans HT0.out.1) fun k hk => ?_
        rw [HSV.out]
        exact HCS.out k hk
set_option maxRecDepth 100000 in
set_option maxHeartbeats 2000000 in
theorem gset_n2 {e o z : Int} (A : Option Addr) (c : Nat) (l : List Gl) (wd : Int) (w : World) (hv : VG l) (hr : rngW wd) (he : wd - natV l = e) (ho : ordZ l = o) (hz : shrV l = z) (hx : 0 < e) (hy : o < 0) (hP : Gls w w.heap.size A l) :
    Calls Try.prog 31 #[.slice A l.length c, .int .i64 wd] w fun e' w' => (∃ A' c', e' = .returned (.tuple #[.slice A' l.length c', .int .i64 e, .int .i64 0]) ∧ Ints w' w'.heap.size A' (mapN (setV l e) l.length)) ∧ Below w.heap.size w w' := by
  have h200 := hv.1
  have hei := e_in hv hr
  rw [he] at hei
  have he1 := hei.1
  have he2 := hei.2
  have hr1 := hr.1
  have hr2 := hr.2
  have HM : Hid (l.length ≤ lenMax) := by show _ ≤ _; unfold lenMax; omega
  have HV := Lib.hid hv
  have HP := Lib.hid hP
  have HO := Lib.hid ho
  have HN : Hid (natZ l = natV l) := natZ_ok hv
  have HSH : Hid (shrZ l = shrV l) := shrZ_ok hv
  have HSV : Hid (∀ k, setV l e k = wdAt l k) := fun k => by
    unfold setV
    rw [if_neg (by omega), if_pos (by rw [ho]; exact hy)]
  obtain ⟨n, hn⟩ : ∃ n, natV l = n := ⟨_, rfl⟩
  rw [hn] at HN he
  rw [hz] at HSH
  have s0 : IntKind.i64.wrap (wd - n) = e := by rw [IntWalk.i64_in _ (by omega)]; exact he
  have hd1 : decide (wd < -1073741824) = false := decide_eq_false (by omega)
  have hd2 : decide (1073741824 < wd) = false := decide_eq_false (by omega)
  have hmi := make_ints l.length (by omega)
  have hd3 : decide (0 < e) = true := decide_eq_true (by omega)
  have hd4 : decide (0 ≤ o) = false := decide_eq_false (by omega)
  have hd5 : decide (e < 0) = false := decide_eq_false (by omega)
  clear hv hr hP ho hei hn hz he he1 he2 hx hy
  refine (callsIn_wide (n := 4)).1 ?_
  obtain ⟨F, hF⟩ : ∃ F, F = Fence.wide := ⟨_, rfl⟩
  have hro : F.round = none := by rw [hF]; rfl
  have hfn : ∀ k, F.fn k := fun k => by rw [hF]; trivial
  rw [← hF]
  have HF := Lib.hid hF
  clear hF
  refine callsIn_of_wp_marks Try.func31 rfl (hfn _) ?_ hro
  simp only [Try.ntmps31, List.size_toArray, List.length_cons, List.length_nil, Nat.reduceAdd, Nat.reduceSub, Array.replicate_succ, Array.replicate_zero, List.push_toArray, List.append_toArray, List.nil_append, List.cons_append]
  gi_wp2_with (gi_at_call 29; refine (inWide HF.out (gvalid_any (r := true) _ _ l _ HM.out HP.out (yes_iff HV.out))).mono ?_; rintro e' w1 ⟨rfl, hb1⟩; have HB1 := Lib.hid hb1; clear hb1)
  obtain ⟨t, ht⟩ : ∃ t, t = w1.heap.size := ⟨_, rfl⟩
  have htw : w.heap.size ≤ t := by rw [ht]; exact HB1.out.size
  have k0 : ((w1.alloc (.cells (madeCells #[.int .i64 0] l.length) 3)).alloc (.cells #[.slice (some ⟨t, 0, none⟩) l.length l.length] 26)).heap[t]? = some (.cells (madeCells #[.int .i64 0] l.length) 3 (0, 0)) := by
    rw [ht]; exact (Below.heap_alloc _ _ _ (by simp)).trans (World.alloc_heap_new w1 _)
  have k1 : ((w1.alloc (.cells (madeCells #[.int .i64 0] l.length) 3)).alloc (.cells #[.slice (some ⟨t, 0, none⟩) l.length l.length] 26)).heap[t + 1]? = some (.cells #[.slice (some ⟨t, 0, none⟩) l.length l.length] 26 (0, 0)) := by
    have := World.alloc_heap_new (w1.alloc (.cells (madeCells #[.int .i64 0] l.length) 3)) (.cells #[.slice (some ⟨t, 0, none⟩) l.length l.length] 26)
    rw [World.size_alloc, ← ht] at this
    exact this
  have kB : Below w.heap.size w ((w1.alloc (.cells (madeCells #[.int .i64 0] l.length) 3)).alloc (.cells #[.slice (some ⟨t, 0, none⟩) l.length l.length] 26)) := below_next HB1.out (two_below _ _ _)
  have ks : ((w1.alloc (.cells (madeCells #[.int .i64 0] l.length) 3)).alloc (.cells #[.slice (some ⟨t, 0, none⟩) l.length l.length] 26)).heap.size = t + 2 := by rw [ht]; simp
  rw [← ht] at ⊢
  generalize ((w1.alloc (.cells (madeCells #[.int .i64 0] l.length) 3)).alloc (.cells #[.slice (some ⟨t, 0, none⟩) l.length l.length] 26)) = W0 at k0 k1 kB ks ⊢
  have HK := Lib.hid (And.intro k0 (And.intro k1 kB))
  have HKS := Lib.hid ks
  clear k0 k1 kB ks ht hmi
  gi_loopw [34] (fun q wr => ∃ (k : Nat) (cs : Array Value), k ≤ l.length ∧ q = .int .i64 (k : Int) ∧ wr.heap[t]? = some (.cells cs 3 (0, 0)) ∧ (∀ j, j < l.length → cs[j]? = some (.int .i64 (if j < k then wdAt l j else 0))) ∧ wr.heap[t + 1]? = some (.cells #[.slice (some ⟨t, 0, none⟩) l.length l.length] 26 (0, 0)) ∧ Below w.heap.size w wr) (fun q _ => l.length - (intOf q).toNat)
  case atStart => exact ⟨0, _, Nat.zero_le _, rfl, HK.out.1, fun j hj => by rw [if_neg (by omega)]; simp [madeCells, Nat.mod_one, hj], HK.out.2.1, HK.out.2.2⟩
  case round =>
    obtain ⟨k, cs, hk, rfl, h1, h2, h3, hbw⟩ := hrel
    have HIC := Lib.hid (And.intro h1 (And.intro h2 h3))
    have HBW := Lib.hid hbw
    have hlt1 : t + 1 < wr.heap.size := (Array.getElem?_eq_some_iff.1 h3).1
    have e7 := blk_cell h3 0 _ rfl
    have z7 := blk_free h1 k
    clear h1 h2 h3 hbw
    by_cases hlt : k < l.length
    · obtain ⟨b, off, rfl, hB, hc⟩ := HP.out (by omega)
      obtain ⟨c0, c1, c2, c3⟩ := hc k hlt
      replace c0 := (HBW.out.cell (p := ⟨b, off + k * 4, none⟩) hB).trans c0
      replace c1 := (HBW.out.cell (p := ⟨b, off + k * 4 + 1, none⟩) hB).trans c1
      replace c2 := (HBW.out.cell (p := ⟨b, off + k * 4 + 2, none⟩) hB).trans c2
      replace c3 := (HBW.out.cell (p := ⟨b, off + k * 4 + 3, none⟩) hB).trans c3
      obtain ⟨a, ha⟩ : ∃ a, wdAt l k = a := ⟨_, rfl⟩
      obtain ⟨s, hs⟩ : ∃ s, stAt l k = s := ⟨_, rfl⟩
      obtain ⟨q, hq⟩ : ∃ q, shAt l k = q := ⟨_, rfl⟩
      obtain ⟨d, hd⟩ : ∃ d, odAt l k = d := ⟨_, rfl⟩
      rw [ha] at c0
      rw [hs] at c1
      rw [hq] at c2
      rw [hd] at c3
      have HA := Lib.hid ha
      have hAL : Below wr.heap.size wr (wr.alloc (.cells #[.int .i64 a, .int .i64 s, .int .i64 q, .int .i64 d] 64)) := one_below _ _
      have e8 := (hAL.cell (p := ⟨t + 1, 0, none⟩) hlt1).trans e7
      have z8 : (wr.alloc (.cells #[.int .i64 a, .int .i64 s, .int .i64 q, .int .i64 d] 64)).frozen? ⟨t, k, none⟩ = false := blk_free ((hAL.block t (by omega)).trans HIC.out.1) k
      have e9 := blk_cell ((hAL.block t (by omega)).trans HIC.out.1) k _ (HIC.out.2.1 k hlt)
      have HAL := Lib.hid hAL
      clear ha hs hq hd hc hAL
      gi_wp2
      go_roundw
      case rel =>
        refine ⟨k + 1, cs.setIfInBounds k (.int .i64 a), by omega, by go_num, ?_, fun j hj => ?_, ?_, ?_⟩
        · exact blk_set ((HAL.out.block t (by omega)).trans HIC.out.1) k _
        · by_cases e : j = k
          · subst e
            have hsz : j < cs.size := (Array.getElem?_eq_some_iff.1 (HIC.out.2.1 j hj)).1
            rw [if_pos (by omega), HA.out]
            simp [hsz]
          · rw [Array.getElem?_setIfInBounds_ne (by omega), HIC.out.2.1 j hj]
            by_cases e2 : j < k
            · rw [if_pos e2, if_pos (by omega)]
            · rw [if_neg e2, if_neg (by omega)]
        · exact (Below.heap_setCell _ ⟨t, k, none⟩ _ (t + 1) (by show t + 1 ≠ t; omega)).trans ((HAL.out.block (t + 1) hlt1).trans HIC.out.2.2)
        · exact (below_next HBW.out HAL.out).setCell (p := ⟨t, k, none⟩) htw _
      case measure => simp [intOf]; omega
    · have e1 : (k : Int) = (l.length : Int) := by omega
      have HCS : Hid (∀ j, j < l.length → cs[j]? = some (.int .i64 (wdAt l j))) := fun j hj => by rw [HIC.out.2.1 j hj, if_pos (by omega)]
      rw [e1]
      clear e1 hlt hk
      have HT0 := Lib.hid (And.intro HIC.out.1 HIC.out.2.2)
      have htl : t + 1 < wr.heap.size := hlt1
      clear e7 z7 hlt1 HIC
      gi_wp2_with (gi_at_call 51; refine (inWide HF.out (gnat_any _ _ l _ HN.out HM.out (HP.out.next HBW.out))).mono ?_; rintro e' w2 ⟨rfl, hb2⟩; have HB2 := Lib.hid hb2; have HW2 := Lib.hid (below_next HBW.out hb2); clear hb2)
      gi_wp2_with (gi_at_call 52; refine (inWide HF.out (ggreat_any _ _ l _ HO.out HM.out (HP.out.next HW2.out))).mono ?_; rintro e' w3 ⟨rfl, hb3⟩; have HB3 := Lib.hid (below_next HB2.out hb3); have HW3 := Lib.hid (below_next HW2.out hb3); clear hb3)
      gi_wp2_with (gi_at_call 53; refine (inWide HF.out (gshr_any _ _ l _ HSH.out HM.out (HP.out.next HW3.out))).mono ?_; rintro e' w4 ⟨rfl, hb4⟩; have e7 := blk_cell (((below_next HB3.out hb4).block (t + 1) htl).trans HT0.out.2) 0 _ rfl; have HB4 := Lib.hid (below_next HB3.out hb4); have HW4 := Lib.hid (below_next HW3.out hb4); clear hb4)
      refine ⟨.tuple #[.slice (some ⟨t, 0, none⟩) l.length l.length, .int .i64 e, .int .i64 0], ?_, ⟨_, _, rfl, ?_⟩, HW4.out⟩
      · simp [results, Try.f31, go_sem]
      · refine ints_blk ((HB4.out.block t (by omega)).trans HT0.out.1) fun k hk => ?_
        rw [HSV.out]
        exact HCS.out k hk
set_option maxRecDepth 100000 in
set_option maxHeartbeats 2000000 in
theorem gset_n3 {e o z : Int} (A : Option Addr) (c : Nat) (l : List Gl) (wd : Int) (w : World) (hv : VG l) (hr : rngW wd) (he : wd - natV l = e) (ho : ordZ l = o) (hz : shrV l = z) (hx : e < 0) (hy : z = 0) (hP : Gls w w.heap.size A l) :
    Calls Try.prog 31 #[.slice A l.length c, .int .i64 wd] w fun e' w' => (∃ A' c', e' = .returned (.tuple #[.slice A' l.length c', .int .i64 e, .int .i64 0]) ∧ Ints w' w'.heap.size A' (mapN (setV l e) l.length)) ∧ Below w.heap.size w w' := by
  have h200 := hv.1
  have hei := e_in hv hr
  rw [he] at hei
  have he1 := hei.1
  have he2 := hei.2
  have hr1 := hr.1
  have hr2 := hr.2
  have HM : Hid (l.length ≤ lenMax) := by show _ ≤ _; unfold lenMax; omega
  have HV := Lib.hid hv
  have HP := Lib.hid hP
  have HO := Lib.hid ho
  have HN : Hid (natZ l = natV l) := natZ_ok hv
  have HSH : Hid (shrZ l = shrV l) := shrZ_ok hv
  have HSV : Hid (∀ k, setV l e k = wdAt l k) := fun k => by
    unfold setV
    rw [if_pos hx, if_pos (by unfold gS; rw [hz]; split <;> omega)]
  obtain ⟨n, hn⟩ : ∃ n, natV l = n := ⟨_, rfl⟩
  rw [hn] at HN he
  rw [hz] at HSH
  have s0 : IntKind.i64.wrap (wd - n) = e := by rw [IntWalk.i64_in _ (by omega)]; exact he
  have hd1 : decide (wd < -1073741824) = false := decide_eq_false (by omega)
  have hd2 : decide (1073741824 < wd) = false := decide_eq_false (by omega)
  have hmi := make_ints l.length (by omega)
  have hd3 : decide (0 < e) = false := decide_eq_false (by omega)
  have hd5 : decide (e < 0) = true := decide_eq_true (by omega)
  have hd6 : decide (0 < z) = false := decide_eq_false (by omega)
  clear hv hr hP ho hei hn hz he he1 he2 hx hy
  refine (callsIn_wide (n := 4)).1 ?_
  obtain ⟨F, hF⟩ : ∃ F, F = Fence.wide := ⟨_, rfl⟩
  have hro : F.round = none := by rw [hF]; rfl
  have hfn : ∀ k, F.fn k := fun k => by rw [hF]; trivial
  rw [← hF]
  have HF := Lib.hid hF
  clear hF
  refine callsIn_of_wp_marks Try.func31 rfl (hfn _) ?_ hro
  simp only [Try.ntmps31, List.size_toArray, List.length_cons, List.length_nil, Nat.reduceAdd, Nat.reduceSub, Array.replicate_succ, Array.replicate_zero, List.push_toArray, List.append_toArray, List.nil_append, List.cons_append]
  gi_wp2_with (gi_at_call 29; refine (inWide HF.out (gvalid_any (r := true) _ _ l _ HM.out HP.out (yes_iff HV.out))).mono ?_; rintro e' w1 ⟨rfl, hb1⟩; have HB1 := Lib.hid hb1; clear hb1)
  obtain ⟨t, ht⟩ : ∃ t, t = w1.heap.size := ⟨_, rfl⟩
  have htw : w.heap.size ≤ t := by rw [ht]; exact HB1.out.size
  have k0 : ((w1.alloc (.cells (madeCells #[.int .i64 0] l.length) 3)).alloc (.cells #[.slice (some ⟨t, 0, none⟩) l.length l.length] 26)).heap[t]? = some (.cells (madeCells #[.int .i64 0] l.length) 3 (0, 0)) := by
    rw [ht]; exact (Below.heap_alloc _ _ _ (by simp)).trans (World.alloc_heap_new w1 _)
  have k1 : ((w1.alloc (.cells (madeCells #[.int .i64 0] l.length) 3)).alloc (.cells #[.slice (some ⟨t, 0, none⟩) l.length l.length] 26)).heap[t + 1]? = some (.cells #[.slice (some ⟨t, 0, none⟩) l.length l.length] 26 (0, 0)) := by
    have := World.alloc_heap_new (w1.alloc (.cells (madeCells #[.int .i64 0] l.length) 3)) (.cells #[.slice (some ⟨t, 0, none⟩) l.length l.length] 26)
    rw [World.size_alloc, ← ht] at this
    exact this
  have kB : Below w.heap.size w ((w1.alloc (.cells (madeCells #[.int .i64 0] l.length) 3)).alloc (.cells #[.slice (some ⟨t, 0, none⟩) l.length l.length] 26)) := below_next HB1.out (two_below _ _ _)
  have ks : ((w1.alloc (.cells (madeCells #[.int .i64 0] l.length) 3)).alloc (.cells #[.slice (some ⟨t, 0, none⟩) l.length l.length] 26)).heap.size = t + 2 := by rw [ht]; simp
  rw [← ht] at ⊢
  generalize ((w1.alloc (.cells (madeCells #[.int .i64 0] l.length) 3)).alloc (.cells #[.slice (some ⟨t, 0, none⟩) l.length l.length] 26)) = W0 at k0 k1 kB ks ⊢
  have HK := Lib.hid (And.intro k0 (And.intro k1 kB))
  have HKS := Lib.hid ks
  clear k0 k1 kB ks ht hmi
  gi_loopw [34] (fun q wr => ∃ (k : Nat) (cs : Array Value), k ≤ l.length ∧ q = .int .i64 (k : Int) ∧ wr.heap[t]? = some (.cells cs 3 (0, 0)) ∧ (∀ j, j < l.length → cs[j]? = some (.int .i64 (if j < k then wdAt l j else 0))) ∧ wr.heap[t + 1]? = some (.cells #[.slice (some ⟨t, 0, none⟩) l.length l.length] 26 (0, 0)) ∧ Below w.heap.size w wr) (fun q _ => l.length - (intOf q).toNat)
  case atStart => exact ⟨0, _, Nat.zero_le _, rfl, HK.out.1, fun j hj => by rw [if_neg (by omega)]; simp [madeCells, Nat.mod_one, hj], HK.out.2.1, HK.out.2.2⟩
  case round =>
    obtain ⟨k, cs, hk, rfl, h1, h2, h3, hbw⟩ := hrel
    have HIC := Lib.hid (And.intro h1 (And.intro h2 h3))
    have HBW := Lib.hid hbw
    have hlt1 : t + 1 < wr.heap.size := (Array.getElem?_eq_some_iff.1 h3).1
    have e7 := blk_cell h3 0 _ rfl
    have z7 := blk_free h1 k
    clear h1 h2 h3 hbw
    by_cases hlt : k < l.length
    · obtain ⟨b, off, rfl, hB, hc⟩ := HP.out (by omega)
      obtain ⟨c0, c1, c2, c3⟩ := hc k hlt
      replace c0 := (HBW.out.cell (p := ⟨b, off + k * 4, none⟩) hB).trans c0
      replace c1 := (HBW.out.cell (p := ⟨b, off + k * 4 + 1, none⟩) hB).trans c1
      replace c2 := (HBW.out.cell (p := ⟨b, off + k * 4 + 2, none⟩) hB).trans c2
      replace c3 := (HBW.out.cell (p := ⟨b, off + k * 4 + 3, none⟩) hB).trans c3
      obtain ⟨a, ha⟩ : ∃ a, wdAt l k = a := ⟨_, rfl⟩
      obtain ⟨s, hs⟩ : ∃ s, stAt l k = s := ⟨_, rfl⟩
      obtain ⟨q, hq⟩ : ∃ q, shAt l k = q := ⟨_, rfl⟩
      obtain ⟨d, hd⟩ : ∃ d, odAt l k = d := ⟨_, rfl⟩
      rw [ha] at c0
      rw [hs] at c1
      rw [hq] at c2
      rw [hd] at c3
      have HA := Lib.hid ha
      have hAL : Below wr.heap.size wr (wr.alloc (.cells #[.int .i64 a, .int .i64 s, .int .i64 q, .int .i64 d] 64)) := one_below _ _
      have e8 := (hAL.cell (p := ⟨t + 1, 0, none⟩) hlt1).trans e7
      have z8 : (wr.alloc (.cells #[.int .i64 a, .int .i64 s, .int .i64 q, .int .i64 d] 64)).frozen? ⟨t, k, none⟩ = false := blk_free ((hAL.block t (by omega)).trans HIC.out.1) k
      have e9 := blk_cell ((hAL.block t (by omega)).trans HIC.out.1) k _ (HIC.out.2.1 k hlt)
      have HAL := Lib.hid hAL
      clear ha hs hq hd hc hAL
      gi_wp2
      go_roundw
      case rel =>
        refine ⟨k + 1, cs.setIfInBounds k (.int .i64 a), by omega, by go_num, ?_, fun j hj => ?_, ?_, ?_⟩
        · exact blk_set ((HAL.out.block t (by omega)).trans HIC.out.1) k _
        · by_cases e : j = k
          · subst e
            have hsz : j < cs.size := (Array.getElem?_eq_some_iff.1 (HIC.out.2.1 j hj)).1
            rw [if_pos (by omega), HA.out]
            simp [hsz]
          · rw [Array.getElem?_setIfInBounds_ne (by omega), HIC.out.2.1 j hj]
            by_cases e2 : j < k
            · rw [if_pos e2, if_pos (by omega)]
            · rw [if_neg e2, if_neg (by omega)]
        · exact (Below.heap_setCell _ ⟨t, k, none⟩ _ (t + 1) (by show t + 1 ≠ t; omega)).trans ((HAL.out.block (t + 1) hlt1).trans HIC.out.2.2)
        · exact (below_next HBW.out HAL.out).setCell (p := ⟨t, k, none⟩) htw _
      case measure => simp [intOf]; omega
    · have e1 : (k : Int) = (l.length : Int) := by omega
      have HCS : Hid (∀ j, j < l.length → cs[j]? = some (.int .i64 (wdAt l j))) := fun j hj => by rw [HIC.out.2.1 j hj, if_pos (by omega)]
      rw [e1]
      clear e1 hlt hk
      have HT0 := Lib.hid (And.intro HIC.out.1 HIC.out.2.2)
      have htl : t + 1 < wr.heap.size := hlt1
      clear e7 z7 hlt1 HIC
      gi_wp2_with (gi_at_call 51; refine (inWide HF.out (gnat_any _ _ l _ HN.out HM.out (HP.out.next HBW.out))).mono ?_; rintro e' w2 ⟨rfl, hb2⟩; have HB2 := Lib.hid hb2; have HW2 := Lib.hid (below_next HBW.out hb2); clear hb2)
      gi_wp2_with (gi_at_call 52; refine (inWide HF.out (ggreat_any _ _ l _ HO.out HM.out (HP.out.next HW2.out))).mono ?_; rintro e' w3 ⟨rfl, hb3⟩; have HB3 := Lib.hid (below_next HB2.out hb3); have HW3 := Lib.hid (below_next HW2.out hb3); clear hb3)
      gi_wp2_with (gi_at_call 53; refine (inWide HF.out (gshr_any _ _ l _ HSH.out HM.out (HP.out.next HW3.out))).mono ?_; rintro e' w4 ⟨rfl, hb4⟩; have e7 := blk_cell (((below_next HB3.out hb4).block (t + 1) htl).trans HT0.out.2) 0 _ rfl; have HB4 := Lib.hid (below_next HB3.out hb4); have HW4 := Lib.hid (below_next HW3.out hb4); clear hb4)
      refine ⟨.tuple #[.slice (some ⟨t, 0, none⟩) l.length l.length, .int .i64 e, .int .i64 0], ?_, ⟨_, _, rfl, ?_⟩, HW4.out⟩
      · simp [results, Try.f31, go_sem]
      · refine ints_blk ((HB4.out.block t (by omega)).trans HT0.out.1) fun k hk => ?_
        rw [HSV.out]
        exact HCS.out k hk
end Go.Proofs.Ytjckbdbjcgjcaaa.Gu
