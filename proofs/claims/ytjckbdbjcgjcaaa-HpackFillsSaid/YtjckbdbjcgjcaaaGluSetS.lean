/- The program's Set: the branch that stretches. -/
import Derived.Test.YtjckbdbjcgjcaaaGluSetBase
namespace Go.Proofs.Ytjckbdbjcgjcaaa.Gu
open Go.RowKit
attribute [local go_sem] Oper.semAt_some
set_option maxRecDepth 100000 in
set_option maxHeartbeats 2000000 in
theorem gset_str {e o T : Int} (A : Option Addr) (c : Nat) (l : List Gl) (wd : Int) (w : World) (hv : VG l) (hr : rngW wd) (he : wd - natV l = e) (hpos : 0 < e) (ho : ordZ l = o) (ho0 : 0 ≤ o) (hT : strV l o = T) (hT0 : 0 < T) (hP : Gls w w.heap.size A l) :
    Calls Try.prog 31 #[.slice A l.length c, .int .i64 wd] w fun e' w' => (∃ A' c', e' = .returned (.tuple #[.slice A' l.length c', .int .i64 0, .int .i64 0]) ∧ Ints w' w'.heap.size A' (mapN (setV l e) l.length)) ∧ Below w.heap.size w w' := by
  have h200 := hv.1
  have hei := e_in hv hr
  rw [he] at hei
  have he1 := hei.1
  have he2 := hei.2
  have hr1 := hr.1
  have hr2 := hr.2
  have HM : Hid (l.length ≤ lenMax) := by show _ ≤ _; unfold lenMax; omega
  have HV := Lib.hid hv
  have HP := Lib.hid hP
  have HO := Lib.hid ho
  have HN : Hid (natZ l = natV l) := natZ_ok hv
  have HSH : Hid (shrZ l = shrV l) := shrZ_ok hv
  have HT := Lib.hid hT
  have HST0 : Hid (strZ l o = T) := (strZ_ok hv o).trans hT
  obtain ⟨z, hz⟩ : ∃ z, shrV l = z := ⟨_, rfl⟩
  obtain ⟨n, hn⟩ : ∃ n, natV l = n := ⟨_, rfl⟩
  rw [hn] at HN he
  rw [hz] at HSH
  have s0 : IntKind.i64.wrap (wd - n) = e := by rw [IntWalk.i64_in _ (by omega)]; exact he
  have hd1 : decide (wd < -1073741824) = false := decide_eq_false (by omega)
  have hd2 : decide (1073741824 < wd) = false := decide_eq_false (by omega)
  have hmi := make_ints l.length (by omega)
  have hne : 0 < e := hpos
  have hd3 : decide (0 < e) = true := decide_eq_true hpos
  have hd4 : decide (0 ≤ o) = true := decide_eq_true ho0
  clear hv hr hP ho hei hn hz he hT he1
  refine (callsIn_wide (n := 4)).1 ?_
  obtain ⟨F, hF⟩ : ∃ F, F = Fence.wide := ⟨_, rfl⟩
  have hro : F.round = none := by rw [hF]; rfl
  have hfn : ∀ k, F.fn k := fun k => by rw [hF]; trivial
  rw [← hF]
  have HF := Lib.hid hF
  clear hF
  refine callsIn_of_wp_marks Try.func31 rfl (hfn _) ?_ hro
  simp only [Try.ntmps31, List.size_toArray, List.length_cons, List.length_nil, Nat.reduceAdd, Nat.reduceSub, Array.replicate_succ, Array.replicate_zero, List.push_toArray, List.append_toArray, List.nil_append, List.cons_append]
  gi_wp2_with (gi_at_call 29; refine (inWide HF.out (gvalid_any (r := true) _ _ l _ HM.out HP.out (yes_iff HV.out))).mono ?_; rintro e' w1 ⟨rfl, hb1⟩; have HB1 := Lib.hid hb1; clear hb1)
  obtain ⟨t, ht⟩ : ∃ t, t = w1.heap.size := ⟨_, rfl⟩
  have htw : w.heap.size ≤ t := by rw [ht]; exact HB1.out.size
  have k0 : ((w1.alloc (.cells (madeCells #[.int .i64 0] l.length) 3)).alloc (.cells #[.slice (some ⟨t, 0, none⟩) l.length l.length] 26)).heap[t]? = some (.cells (madeCells #[.int .i64 0] l.length) 3 (0, 0)) := by
    rw [ht]; exact (Below.heap_alloc _ _ _ (by simp)).trans (World.alloc_heap_new w1 _)
  have k1 : ((w1.alloc (.cells (madeCells #[.int .i64 0] l.length) 3)).alloc (.cells #[.slice (some ⟨t, 0, none⟩) l.length l.length] 26)).heap[t + 1]? = some (.cells #[.slice (some ⟨t, 0, none⟩) l.length l.length] 26 (0, 0)) := by
    have := World.alloc_heap_new (w1.alloc (.cells (madeCells #[.int .i64 0] l.length) 3)) (.cells #[.slice (some ⟨t, 0, none⟩) l.length l.length] 26)
    rw [World.size_alloc, ← ht] at this
    exact this
  have kB : Below w.heap.size w ((w1.alloc (.cells (madeCells #[.int .i64 0] l.length) 3)).alloc (.cells #[.slice (some ⟨t, 0, none⟩) l.length l.length] 26)) := below_next HB1.out (two_below _ _ _)
  have ks : ((w1.alloc (.cells (madeCells #[.int .i64 0] l.length) 3)).alloc (.cells #[.slice (some ⟨t, 0, none⟩) l.length l.length] 26)).heap.size = t + 2 := by rw [ht]; simp
  rw [← ht] at ⊢
  generalize ((w1.alloc (.cells (madeCells #[.int .i64 0] l.length) 3)).alloc (.cells #[.slice (some ⟨t, 0, none⟩) l.length l.length] 26)) = W0 at k0 k1 kB ks ⊢
  have HK := Lib.hid (And.intro k0 (And.intro k1 kB))
  have HKS := Lib.hid ks
  clear k0 k1 kB ks ht hmi
  gi_loopw [34] (fun q wr => ∃ (k : Nat) (cs : Array Value), k ≤ l.length ∧ q = .int .i64 (k : Int) ∧ wr.heap[t]? = some (.cells cs 3 (0, 0)) ∧ (∀ j, j < l.length → cs[j]? = some (.int .i64 (if j < k then wdAt l j else 0))) ∧ wr.heap[t + 1]? = some (.cells #[.slice (some ⟨t, 0, none⟩) l.length l.length] 26 (0, 0)) ∧ Below w.heap.size w wr) (fun q _ => l.length - (intOf q).toNat)
  case atStart => exact ⟨0, _, Nat.zero_le _, rfl, HK.out.1, fun j hj => by rw [if_neg (by omega)]; simp [madeCells, Nat.mod_one, hj], HK.out.2.1, HK.out.2.2⟩
  case round =>
    obtain ⟨k, cs, hk, rfl, h1, h2, h3, hbw⟩ := hrel
    have HIC := Lib.hid (And.intro h1 (And.intro h2 h3))
    have HBW := Lib.hid hbw
    have hlt1 : t + 1 < wr.heap.size := (Array.getElem?_eq_some_iff.1 h3).1
    have e7 := blk_cell h3 0 _ rfl
    have z7 := blk_free h1 k
    clear h1 h2 h3 hbw
    by_cases hlt : k < l.length
    · obtain ⟨b, off, rfl, hB, hc⟩ := HP.out (by omega)
      obtain ⟨c0, c1, c2, c3⟩ := hc k hlt
      replace c0 := (HBW.out.cell (p := ⟨b, off + k * 4, none⟩) hB).trans c0
      replace c1 := (HBW.out.cell (p := ⟨b, off + k * 4 + 1, none⟩) hB).trans c1
      replace c2 := (HBW.out.cell (p := ⟨b, off + k * 4 + 2, none⟩) hB).trans c2
      replace c3 := (HBW.out.cell (p := ⟨b, off + k * 4 + 3, none⟩) hB).trans c3
      obtain ⟨a, ha⟩ : ∃ a, wdAt l k = a := ⟨_, rfl⟩
      obtain ⟨s, hs⟩ : ∃ s, stAt l k = s := ⟨_, rfl⟩
      obtain ⟨q, hq⟩ : ∃ q, shAt l k = q := ⟨_, rfl⟩
      obtain ⟨d, hd⟩ : ∃ d, odAt l k = d := ⟨_, rfl⟩
      rw [ha] at c0
      rw [hs] at c1
      rw [hq] at c2
      rw [hd] at c3
      have HA := Lib.hid ha
      have hAL : Below wr.heap.size wr (wr.alloc (.cells #[.int .i64 a, .int .i64 s, .int .i64 q, .int .i64 d] 64)) := one_below _ _
      have e8 := (hAL.cell (p := ⟨t + 1, 0, none⟩) hlt1).trans e7
      have z8 : (wr.alloc (.cells #[.int .i64 a, .int .i64 s, .int .i64 q, .int .i64 d] 64)).frozen? ⟨t, k, none⟩ = false := blk_free ((hAL.block t (by omega)).trans HIC.out.1) k
      have e9 := blk_cell ((hAL.block t (by omega)).trans HIC.out.1) k _ (HIC.out.2.1 k hlt)
      have HAL := Lib.hid hAL
      clear ha hs hq hd hc hAL
      gi_wp2
      go_roundw
      case rel =>
        refine ⟨k + 1, cs.setIfInBounds k (.int .i64 a), by omega, by go_num, ?_, fun j hj => ?_, ?_, ?_⟩
        · exact blk_set ((HAL.out.block t (by omega)).trans HIC.out.1) k _
        · by_cases e : j = k
          · subst e
            have hsz : j < cs.size := (Array.getElem?_eq_some_iff.1 (HIC.out.2.1 j hj)).1
            rw [if_pos (by omega), HA.out]
            simp [hsz]
          · rw [Array.getElem?_setIfInBounds_ne (by omega), HIC.out.2.1 j hj]
            by_cases e2 : j < k
            · rw [if_pos e2, if_pos (by omega)]
            · rw [if_neg e2, if_neg (by omega)]
        · exact (Below.heap_setCell _ ⟨t, k, none⟩ _ (t + 1) (by show t + 1 ≠ t; omega)).trans ((HAL.out.block (t + 1) hlt1).trans HIC.out.2.2)
        · exact (below_next HBW.out HAL.out).setCell (p := ⟨t, k, none⟩) htw _
      case measure => simp [intOf]; omega
    · have e1 : (k : Int) = (l.length : Int) := by omega
      have HCS : Hid (∀ j, j < l.length → cs[j]? = some (.int .i64 (wdAt l j))) := fun j hj => by rw [HIC.out.2.1 j hj, if_pos (by omega)]
      rw [e1]
      clear e1 hlt hk
      have HT0 := Lib.hid (And.intro HIC.out.1 HIC.out.2.2)
      have htl : t + 1 < wr.heap.size := hlt1
      clear e7 z7 hlt1 HIC
      gi_wp2_with (gi_at_call 51; refine (inWide HF.out (gnat_any _ _ l _ HN.out HM.out (HP.out.next HBW.out))).mono ?_; rintro e' w2 ⟨rfl, hb2⟩; have HB2 := Lib.hid hb2; have HW2 := Lib.hid (below_next HBW.out hb2); clear hb2)
      gi_wp2_with (gi_at_call 52; refine (inWide HF.out (ggreat_any _ _ l _ HO.out HM.out (HP.out.next HW2.out))).mono ?_; rintro e' w3 ⟨rfl, hb3⟩; have HB3 := Lib.hid (below_next HB2.out hb3); have HW3 := Lib.hid (below_next HW2.out hb3); clear hb3)
      gi_wp2_with (gi_at_call 53; refine (inWide HF.out (gshr_any _ _ l _ HSH.out HM.out (HP.out.next HW3.out))).mono ?_; rintro e' w4 ⟨rfl, hb4⟩; have HB4 := Lib.hid (below_next HB3.out hb4); have HW4 := Lib.hid (below_next HW3.out hb4); clear hb4)
      gi_wp2_with (gi_at_call 55; refine (inWide HF.out (gstr_any _ _ l _ _ HST0.out HM.out (HP.out.next HW4.out))).mono ?_; rintro e' w5 ⟨rfl, hb5⟩; have HB5 := Lib.hid (below_next HB4.out hb5); have HW5 := Lib.hid (below_next HW4.out hb5); clear hb5)
      gi_wp2_with (gi_at_call 54; refine (inWide HF.out (sharer_at _ _ _)).mono ?_; rintro e' w6 ⟨rfl, hx6, hb6⟩; have HX6 := Lib.hid hx6; have HB6 := Lib.hid (below_next HB5.out hb6); have HW6 := Lib.hid (below_next HW5.out hb6); clear hx6 hb6)
      gi_wp2_with (gi_at_call 56; refine (strs_in F (4 - 1) HF.out _ _ _ _ _).mono ?_; rintro e' w' ⟨rfl, rfl⟩)
      rw [HX6.out.1]
      obtain ⟨s, hs⟩ : ∃ s, s = w5.heap.size := ⟨_, rfl⟩
      have HS := Lib.hid hs
      have kb := boxes3 w6 (.cells #[.func (.func 71) #[] #[.pointer (some ⟨s + 2, 0, none⟩), .pointer (some ⟨s, 0, none⟩), .pointer (some ⟨s + 1, 0, none⟩), .pointer (some ⟨s + 3, 0, none⟩)]] 49) (.cells #[.slice A l.length c] 23) (.cells #[.int .i64 o] 3)
      have hx := HX6.out
      rw [← hs] at hx ⊢
      rw [hx.1] at kb
      generalize (((w6.alloc (.cells #[.func (.func 71) #[] #[.pointer (some ⟨s + 2, 0, none⟩), .pointer (some ⟨s, 0, none⟩), .pointer (some ⟨s + 1, 0, none⟩), .pointer (some ⟨s + 3, 0, none⟩)]] 49)).alloc (.cells #[.slice A l.length c] 23)).alloc (.cells #[.int .i64 o] 3)) = W9 at kb ⊢
      simp only [Nat.add_assoc, Nat.reduceAdd] at kb ⊢
      obtain ⟨⟨q4, q5, q6⟩, q7, q8⟩ := kb
      obtain ⟨_, q0, q1, q2, q3⟩ := hx
      have hts : t + 1 < s := by rw [hs]; have := HB5.out.size; omega
      have r0 : W9.heap[s]? = some (.cells #[.int .i64 e] 3 (0, 0)) := (q8.block s (by omega)).trans q0
      have r1 : W9.heap[s + 1]? = some (.cells #[.int .i64 T] 3 (0, 0)) := (q8.block (s + 1) (by omega)).trans q1
      have r2 : W9.heap[s + 2]? = some (.cells #[.int .i64 0] 3 (0, 0)) := (q8.block (s + 2) (by omega)).trans q2
      have r3 : W9.heap[s + 3]? = some (.cells #[.int .i64 0] 3 (0, 0)) := (q8.block (s + 3) (by omega)).trans q3
      have ht0 : W9.heap[t]? = some (.cells cs 3 (0, 0)) := (q8.block t (by omega)).trans ((HB6.out.block t (by omega)).trans HT0.out.1)
      have ht1 : W9.heap[t + 1]? = some (.cells #[.slice (some ⟨t, 0, none⟩) l.length l.length] 26 (0, 0)) := (q8.block (t + 1) (by omega)).trans ((HB6.out.block (t + 1) htl).trans HT0.out.2)
      have hsw : w.heap.size ≤ s := by omega
      have hW1 : Below w.heap.size w W9 := HW6.out.trans (q8.mono (by omega))
      have HMEM : Hid (ShMem w l.length t s e T (shF addZ e T (stAt l) (wdAt l) []) W9) := ⟨cs, ht0, HCS.out, ⟨ht1, r0, r1, r2, r3, q4⟩, hW1⟩
      have hst : SeqStopsK F (4 - 1) Try.prog 72 #[.pointer (some ⟨s + 5, 0, none⟩), .pointer (some ⟨s + 6, 0, none⟩)] _ _ _ _ _ W9 :=
        strs_stops F (4 - 1) HF.out (by omega) (s + 5) w.heap.size c A l o h200 W9 (by omega) q5 q6 (HP.out.below hW1)
      have HST := Lib.hid hst
      have hsz : s + 7 ≤ W9.heap.size := by omega
      clear q0 q1 q2 q3 q4 q5 q6 q7 q8 r0 r1 r2 r3 ht0 ht1 hW1 hst hs
      refine wpIn_rangeFunc_ownG hro (by omega) (gf := 72) (lb := #[.pointer (some ⟨s + 5, 0, none⟩), .pointer (some ⟨s + 6, 0, none⟩)]) rfl (hfn _) (enters_of Try.func72 (by kernel_rfl) rfl)
        HST.out (fun a b => a.trans b) (Keep.put (by omega) (by omega)) (Below.refl _ _) (fun _ => rfl)
        (fun pre W => ShMem w l.length t s e T (shF addZ e T (stAt l) (wdAt l) (pre.map Subtype.val)) W)
        (fun _ _ _ => False)
        (ShMem.own (by omega))
        (fun _ _ _ _ _ hs _ _ => hs)
        HMEM.out
        (fun x => { tmps := #[.slice A l.length c, .int .i64 wd, undef, undef, .slice none 0 0, .int .i64 0, .int .i64 0, .pointer (some ⟨t + 1, 0, none⟩), u8, u9, .int .i64 e, .int .i64 o, .int .i64 z, .pointer (some ⟨s + 4, 0, none⟩), .int .i64 (x.val : Int), .int .i64 (stAt l x.val), undef, undef, undef, undef, .slice A l.length c, .bool true, .bool false, .int .i64 wd, .bool false, .bool false, .int .i64 wd, .bool false, .bool false, .slice A l.length c, .int .i64 (l.length : Int), .slice (some ⟨t, 0, none⟩) l.length l.length, .slice A l.length c, .int .i64 (l.length : Int), .int .i64 (l.length : Int), .bool false, u36, u37, u38, u39, u40, u41, u42, u43, u44, .int .i64 wd, .slice A l.length c, .int .i64 n, .int .i64 e, .slice A l.length c, .int .i64 o, .slice A l.length c, .int .i64 z, .bool true, .int .i64 e, .bool true, .bool true, .int .i64 o, .bool true, .bool true, .int .i64 e, .slice A l.length c, .int .i64 o, .int .i64 T, .func (.func 71) #[] #[.pointer (some ⟨s + 2, 0, none⟩), .pointer (some ⟨s, 0, none⟩), .pointer (some ⟨s + 1, 0, none⟩), .pointer (some ⟨s + 3, 0, none⟩)], .slice A l.length c, .int .i64 o, .func (.func 72) #[] #[.pointer (some ⟨s + 5, 0, none⟩), .pointer (some ⟨s + 6, 0, none⟩)], .int .i64 (x.val : Int), .int .i64 (stAt l x.val), undef, undef, undef, undef, undef, undef, undef, undef, undef, undef, undef, undef, undef, undef, undef, undef, undef, undef, undef, undef, undef, undef, undef, undef, undef, undef, undef, undef, undef, undef, undef, undef, undef, undef, undef, undef, undef, undef, undef, undef, undef], defers := [] }) ?assign ?body ?done ?stop
      case assign =>
        intro l' x W K hK
        gi_wp2
        exact hK
      case body =>
        rintro l' pre x W ⟨cs, h1, h2, ⟨h3, h4, h5, h6, h7, h8⟩, h9⟩ hlt
        obtain ⟨k, hk, hko⟩ := x
        have hX := shF_snoc addZ e T (stAt l) (wdAt l) (pre.map Subtype.val) k
        obtain ⟨X, hXX⟩ : ∃ X, shF addZ e T (stAt l) (wdAt l) (pre.map Subtype.val) = X := ⟨_, rfl⟩
        rw [hXX] at h2 h6 h7 hX
        have li0 := h2 k hk
        obtain ⟨a, ha⟩ : ∃ a, X.f k = a := ⟨_, rfl⟩
        rw [ha] at li0
        have HX := Lib.hid hX
        obtain ⟨p, hp⟩ : ∃ p, stAt l k = p := ⟨_, rfl⟩
        dsimp only
        rw [hp]
        obtain ⟨s', hs'⟩ : ∃ s', shS X.s p = s' := ⟨_, rfl⟩
        obtain ⟨q', hq'⟩ : ∃ q', shQ e T s' = q' := ⟨_, rfl⟩
        obtain ⟨v, hv⟩ : ∃ v, shVv q' X.b = v := ⟨_, rfl⟩
        obtain ⟨y, hy⟩ : ∃ y, IntKind.i64.wrap (a + v) = y := ⟨_, rfl⟩
        have hSTEP := ShMem.step addZ (stAt l) htw hts hk hp hs' hq' hv (show IntKind.i64.wrap (addZ (X.f k) v) = y by rw [ha]; exact hy) h1 h2 h3 h4 h5 h6 h7 h8 h9
        rw [← hX] at hSTEP
        have HSTEP := Lib.hid hSTEP
        have hCALL : ∀ Wd : World, Wd.heap = W.heap → Calls Try.prog 71 #[.int .i64 p, .pointer (some ⟨s + 2, 0, none⟩), .pointer (some ⟨s, 0, none⟩), .pointer (some ⟨s + 1, 0, none⟩), .pointer (some ⟨s + 3, 0, none⟩)] Wd fun e w' =>
            e = .returned (.int .i64 v) ∧ w' = (Wd.setCell ⟨s + 2, 0, none⟩ (.int .i64 s')).setCell ⟨s + 3, 0, none⟩ (.int .i64 q') := fun Wd hwd => by
          have := share_gen (s + 2) s (s + 1) (s + 3) X.s e T X.b p Wd (by show Wd.heap[_]? = _; rw [hwd]; exact h6) (by show Wd.heap[_]? = _; rw [hwd]; exact h4) (by show Wd.heap[_]? = _; rw [hwd]; exact h5) (by show Wd.heap[_]? = _; rw [hwd]; exact h7) (by omega) (by omega) (by omega) hT0
          rw [hs', hq', hv] at this
          exact this
        have hbb : Below s W.drew ((W.drew.setCell ⟨s + 2, 0, none⟩ (.int .i64 s')).setCell ⟨s + 3, 0, none⟩ (.int .i64 q')) := ((Below.refl _ _).setCell (p := ⟨s + 2, 0, none⟩) (by show s ≤ s + 2; omega) _).setCell (p := ⟨s + 3, 0, none⟩) (by show s ≤ s + 3; omega) _
        have hb1 := (hbb.block (t + 1) (by omega)).trans (show W.drew.heap[t + 1]? = _ from h3)
        have hb0 := (hbb.block t (by omega)).trans (show W.drew.heap[t]? = _ from h1)
        have y7 := blk_cell hb1 0 _ rfl
        have yi := blk_cell hb0 k _ li0
        have yz := blk_free hb0 k
        obtain ⟨W1, hW1⟩ : ∃ W1, W1 = W.drew := ⟨_, rfl⟩
        have x7 : W1.cell? ⟨t + 1, 0, none⟩ = some (.slice (some ⟨t, 0, none⟩) l.length l.length) := by rw [hW1]; exact h3.cell
        have xF : W1.cell? ⟨s + 4, 0, none⟩ = some (.func (.func 71) #[] #[.pointer (some ⟨s + 2, 0, none⟩), .pointer (some ⟨s, 0, none⟩), .pointer (some ⟨s + 1, 0, none⟩), .pointer (some ⟨s + 3, 0, none⟩)]) := by rw [hW1]; exact h8.cell
        have xi : W1.cell? ⟨t, k, none⟩ = some (.int .i64 a) := by rw [hW1]; exact blk_cell h1 k _ li0
        have HC := hCALL W1 (by rw [hW1]; rfl)
        rw [← hW1] at y7 yi yz
        obtain ⟨W2, hW2⟩ : ∃ W2, W2 = (W1.setCell ⟨s + 2, 0, none⟩ (.int .i64 s')).setCell ⟨s + 3, 0, none⟩ (.int .i64 q') := ⟨_, rfl⟩
        rw [← hW2] at y7 yi yz HC
        have HC' := Lib.hid HC
        have HW1 := Lib.hid hW1
        have HW2 := Lib.hid hW2
        clear HC hW1 hW2 hCALL h1 h2 h3 h4 h5 h6 h7 h8 h9 li0 ha hX hs' hq' hv hp hXX hSTEP hbb hb1 hb0
        gi_wp2
        obtain ⟨fr, hfr⟩ : ∃ fr : (Nat → Bool) → Act, ∀ b, fr b = { tmps := #[.slice A l.length c, .int .i64 wd, undef, undef, .slice none 0 0, .int .i64 0, .int .i64 0, .pointer (some ⟨t + 1, 0, none⟩), u8, u9, .int .i64 e, .int .i64 o, .int .i64 z, .pointer (some ⟨s + 4, 0, none⟩), .int .i64 (k : Int), .int .i64 (p), undef, undef, undef, undef, .slice A l.length c, .bool true, .bool false, .int .i64 wd, .bool false, .bool false, .int .i64 wd, .bool false, .bool false, .slice A l.length c, .int .i64 (l.length : Int), .slice (some ⟨t, 0, none⟩) l.length l.length, .slice A l.length c, .int .i64 (l.length : Int), .int .i64 (l.length : Int), .bool false, u36, u37, u38, u39, u40, u41, u42, u43, u44, .int .i64 wd, .slice A l.length c, .int .i64 n, .int .i64 e, .slice A l.length c, .int .i64 o, .slice A l.length c, .int .i64 z, .bool true, .int .i64 e, .bool true, .bool true, .int .i64 o, .bool true, .bool true, .int .i64 e, .slice A l.length c, .int .i64 o, .int .i64 T, .func (.func 71) #[] #[.pointer (some ⟨s + 2, 0, none⟩), .pointer (some ⟨s, 0, none⟩), .pointer (some ⟨s + 1, 0, none⟩), .pointer (some ⟨s + 3, 0, none⟩)], .slice A l.length c, .int .i64 o, .func (.func 72) #[] #[.pointer (some ⟨s + 5, 0, none⟩), .pointer (some ⟨s + 6, 0, none⟩)], .int .i64 (k : Int), .int .i64 (p), Slot b 0 (.slice (some ⟨t, 0, none⟩) l.length l.length) undef, Slot b 1 (.int .i64 (k : Int)) undef, Slot b 2 (.pointer (some ⟨t, k, none⟩)) undef, Slot b 3 (.int .i64 a) undef, Slot b 4 (.func (.func 71) #[] #[.pointer (some ⟨s + 2, 0, none⟩), .pointer (some ⟨s, 0, none⟩), .pointer (some ⟨s + 1, 0, none⟩), .pointer (some ⟨s + 3, 0, none⟩)]) undef, Slot b 5 (.int .i64 p) undef, Slot b 6 (.int .i64 v) undef, Slot b 7 (.int .i64 y) undef, Slot b 8 (.pointer (some ⟨t, k, none⟩)) undef, undef, undef, undef, undef, undef, undef, undef, undef, undef, undef, undef, undef, undef, undef, undef, undef, undef, undef, undef, undef, undef, undef, undef, undef, undef, undef, undef, undef, undef, undef, undef, undef], defers := [] } := ⟨_, fun _ => rfl⟩
        have HFR := Lib.hid hfr
        refine wpIn_region_inv (fun b a' w' => a' = fr b ∧ w' = wsel (b 6) (b 9) W1 W2 (W2.setCell ⟨t, k, none⟩ (.int .i64 y))) (by kernel_rfl) (by kernel_rfl) ⟨?start, HW1.out.symm⟩ ?steps ?fin
        case start => rw [hfr]; rfl
        all_goals clear hfr
        case steps =>
          refine ⟨?o0, ?o1, ?o2, ?o3, ?o4, ?o5, ?o6, ?o7, ?o8, ?o9, trivial⟩
          case o0 =>
            rintro b a' w' hb hc hp ⟨ha, hw⟩
            rw [HFR.out] at ha
            subst ha
            refine opAt_plain rfl fun K hK => ?_
            have h9 : b 9 = false := by cases h : b 9 with | false => rfl | true => exact absurd (hc 9 _ rfl h ⟨0, .phase⟩ (by simp) rfl) (by rw [hb]; decide)
            clear hc hp
            cases h6 : b 6
            · rw [h6, h9] at hw
              change w' = W1 at hw
              subst hw
              gi_step
              exact hK _ _ ⟨by rw [HFR.out]; rfl, by show _ = wsel (b 6) (b 9) _ _ _; rw [h6, h9]; rfl⟩
            · rw [h6, h9] at hw
              change w' = W2 at hw
              subst hw
              gi_step
              exact hK _ _ ⟨by rw [HFR.out]; rfl, by show _ = wsel (b 6) (b 9) _ _ _; rw [h6, h9]; rfl⟩
          case o1 =>
            rintro b a' w' hb hc hp ⟨ha, hw⟩
            rw [HFR.out] at ha
            subst ha
            refine opAt_plain rfl fun K hK => ?_
            clear hc hp
            gi_step
            exact hK _ _ ⟨by rw [HFR.out]; rfl, by first | exact hw | rfl | (show _ = wsel (b 6) (b 9) _ _ _; rw [p6])⟩
          case o2 =>
            rintro b a' w' hb hc hp ⟨ha, hw⟩
            have p0 : b 0 = true := hp ⟨0, .data⟩ (by simp) rfl
            have p1 : b 1 = true := hp ⟨1, .data⟩ (by simp) rfl
            rw [HFR.out] at ha
            rw [Slot_true _ _ p0, Slot_true _ _ p1] at ha
            subst ha
            refine opAt_plain rfl fun K hK => ?_
            clear hc hp
            gi_step
            exact hK _ _ ⟨by rw [HFR.out, Slot_true (b := upd b 2) (i := 0) _ _ p0, Slot_true (b := upd b 2) (i := 1) _ _ p1]; rfl, by first | exact hw | rfl | (show _ = wsel (b 6) (b 9) _ _ _; rw [p6])⟩
          case o3 =>
            rintro b a' w' hb hc hp ⟨ha, hw⟩
            have p2 : b 2 = true := hp ⟨2, .data⟩ (by simp) rfl
            rw [HFR.out] at ha
            rw [Slot_true _ _ p2] at ha
            subst ha
            refine opAt_plain rfl fun K hK => ?_
            have h9 : b 9 = false := by cases h : b 9 with | false => rfl | true => exact absurd (hc 9 _ rfl h ⟨3, .phase⟩ (by simp) rfl) (by rw [hb]; decide)
            clear hc hp
            cases h6 : b 6
            · rw [h6, h9] at hw
              change w' = W1 at hw
              subst hw
              gi_step
              exact hK _ _ ⟨by rw [HFR.out, Slot_true (b := upd b 3) (i := 2) _ _ p2]; rfl, by show _ = wsel (b 6) (b 9) _ _ _; rw [h6, h9]; rfl⟩
            · rw [h6, h9] at hw
              change w' = W2 at hw
              subst hw
              gi_step
              exact hK _ _ ⟨by rw [HFR.out, Slot_true (b := upd b 3) (i := 2) _ _ p2]; rfl, by show _ = wsel (b 6) (b 9) _ _ _; rw [h6, h9]; rfl⟩
          case o4 =>
            rintro b a' w' hb hc hp ⟨ha, hw⟩
            rw [HFR.out] at ha
            subst ha
            refine opAt_plain rfl fun K hK => ?_
            have h9 : b 9 = false := by cases h : b 9 with | false => rfl | true => exact absurd (hc 9 _ rfl h ⟨4, .phase⟩ (by simp) rfl) (by rw [hb]; decide)
            have h6 : b 6 = false := by cases h : b 6 with | false => rfl | true => exact absurd (hc 6 _ rfl h ⟨4, .data⟩ (by simp) rfl) (by rw [hb]; decide)
            clear hc hp
            rw [h6, h9] at hw
            change w' = W1 at hw
            subst hw
            gi_step
            exact hK _ _ ⟨by rw [HFR.out]; rfl, by show _ = wsel (b 6) (b 9) _ _ _; rw [h6, h9]; rfl⟩
          case o5 =>
            rintro b a' w' hb hc hp ⟨ha, hw⟩
            rw [HFR.out] at ha
            subst ha
            refine opAt_plain rfl fun K hK => ?_
            clear hc hp
            gi_step
            exact hK _ _ ⟨by rw [HFR.out]; rfl, by first | exact hw | rfl | (show _ = wsel (b 6) (b 9) _ _ _; rw [p6])⟩
          case o6 =>
            rintro b a' w' hb hc hp ⟨ha, hw⟩
            have p4 : b 4 = true := hp ⟨4, .data⟩ (by simp) rfl
            have p5 : b 5 = true := hp ⟨5, .data⟩ (by simp) rfl
            rw [HFR.out] at ha
            rw [Slot_true _ _ p4, Slot_true _ _ p5] at ha
            subst ha
            refine opAt_plain rfl fun K hK => ?_
            have h9 : b 9 = false := by cases h : b 9 with | false => rfl | true => exact absurd (hc 9 _ rfl h ⟨6, .chain⟩ (by simp) rfl) (by rw [hb]; decide)
            clear hc hp
            rw [hb, h9] at hw
            change w' = W1 at hw
            subst hw
            gi_wp2_with (gi_at_call 71; refine (inWideRound HF.out HC'.out).mono ?_; rintro e' w8 ⟨rfl, rfl⟩)
            exact ⟨by rw [HFR.out, Slot_true (b := upd b 6) (i := 4) _ _ p4, Slot_true (b := upd b 6) (i := 5) _ _ p5]; rfl, by show _ = wsel true (b 9) _ _ _; rw [h9]; rfl⟩
          case o7 =>
            rintro b a' w' hb hc hp ⟨ha, hw⟩
            have p3 : b 3 = true := hp ⟨3, .data⟩ (by simp) rfl
            have p6 : b 6 = true := hp ⟨6, .data⟩ (by simp) rfl
            rw [HFR.out] at ha
            rw [Slot_true _ _ p3, Slot_true _ _ p6] at ha
            subst ha
            refine opAt_plain rfl fun K hK => ?_
            clear hc hp
            gi_step
            exact hK _ _ ⟨by rw [HFR.out, Slot_true (b := upd b 7) (i := 3) _ _ p3, Slot_true (b := upd b 7) (i := 6) _ _ p6]; rfl, by first | exact hw | rfl | (show _ = wsel (b 6) (b 9) _ _ _; rw [p6])⟩
          case o8 =>
            rintro b a' w' hb hc hp ⟨ha, hw⟩
            have p0 : b 0 = true := hp ⟨0, .phase⟩ (by simp) rfl
            have p1 : b 1 = true := hp ⟨1, .phase⟩ (by simp) rfl
            have p2 : b 2 = true := hp ⟨2, .phase⟩ (by simp) rfl
            have p3 : b 3 = true := hp ⟨3, .phase⟩ (by simp) rfl
            have p4 : b 4 = true := hp ⟨4, .phase⟩ (by simp) rfl
            have p5 : b 5 = true := hp ⟨5, .phase⟩ (by simp) rfl
            have p6 : b 6 = true := hp ⟨6, .phase⟩ (by simp) rfl
            have p7 : b 7 = true := hp ⟨7, .phase⟩ (by simp) rfl
            rw [HFR.out] at ha
            rw [Slot_true _ _ p0, Slot_true _ _ p1] at ha
            subst ha
            refine opAt_plain rfl fun K hK => ?_
            clear hc hp
            gi_step
            exact hK _ _ ⟨by rw [HFR.out, Slot_true (b := upd b 8) (i := 0) _ _ p0, Slot_true (b := upd b 8) (i := 1) _ _ p1]; rfl, by first | exact hw | rfl | (show _ = wsel (b 6) (b 9) _ _ _; rw [p6])⟩
          case o9 =>
            rintro b a' w' hb hc hp ⟨ha, hw⟩
            have p8 : b 8 = true := hp ⟨8, .data⟩ (by simp) rfl
            have p7 : b 7 = true := hp ⟨7, .data⟩ (by simp) rfl
            have p0 : b 0 = true := hp ⟨0, .phase⟩ (by simp) rfl
            have p1 : b 1 = true := hp ⟨1, .phase⟩ (by simp) rfl
            have p2 : b 2 = true := hp ⟨2, .phase⟩ (by simp) rfl
            have p3 : b 3 = true := hp ⟨3, .phase⟩ (by simp) rfl
            have p4 : b 4 = true := hp ⟨4, .phase⟩ (by simp) rfl
            have p5 : b 5 = true := hp ⟨5, .phase⟩ (by simp) rfl
            have p6 : b 6 = true := hp ⟨6, .phase⟩ (by simp) rfl
            rw [HFR.out] at ha
            rw [Slot_true _ _ p8, Slot_true _ _ p7] at ha
            subst ha
            refine opAt_plain rfl fun K hK => ?_
            clear hc hp
            rw [p6, hb] at hw
            change w' = W2 at hw
            subst hw
            gi_step
            exact hK _ _ ⟨by rw [HFR.out, Slot_true (b := upd b 9) (i := 8) _ _ p8, Slot_true (b := upd b 9) (i := 7) _ _ p7]; rfl, rfl⟩
        case fin =>
          rintro b a' w' hall ⟨ha, hw⟩
          rw [HFR.out] at ha
          rw [Slot_true _ _ (hall 0 (by decide)), Slot_true _ _ (hall 1 (by decide)), Slot_true _ _ (hall 2 (by decide)), Slot_true _ _ (hall 3 (by decide)), Slot_true _ _ (hall 4 (by decide)), Slot_true _ _ (hall 5 (by decide)), Slot_true _ _ (hall 6 (by decide)), Slot_true _ _ (hall 7 (by decide)), Slot_true _ _ (hall 8 (by decide))] at ha
          rw [hall 6 (by decide), hall 9 (by decide)] at hw
          change w' = W2.setCell ⟨t, k, none⟩ (.int .i64 y) at hw
          subst ha hw
          clear hall HFR
          gi_wp2
          obtain rfl := HW2.out
          obtain rfl := HW1.out
          have hkp := sh_keeps (W := W) (w := w) (t := t) (s := s) (k := k) (lo := s + 5) (hi := s + 5 + 2) (B := W9.heap.size) (s' := s') (q' := q') (y := y) htw hts (by omega)
          refine ⟨hkp.1, hkp.2, ?_⟩
          dsimp only
          rw [List.map_append]
          exact HSTEP.out
      case done =>
        rintro D ys W hD hys ⟨cs, h1, h2, ⟨h3, h4, h5, h6, h7, h8⟩, h9⟩ hDk
        have e7 := h3.cell
        have HHH := Lib.hid (And.intro h1 (And.intro h2 h9))
        clear h1 h2 h3 h4 h5 h6 h7 h8 h9
        gi_wp2
        refine ⟨by simp, .inl ⟨_, _, rfl, run_takeDeferred hDk, ?_⟩⟩
        refine ⟨.tuple #[.slice (some ⟨t, 0, none⟩) l.length l.length, .int .i64 0, .int .i64 0], ?_, ⟨_, _, rfl, ?_⟩, HHH.out.2.2.trans (belowK_b (w := w) (Nat.le_refl _) W D _ _ (by omega) hDk rfl rfl)⟩
        · simp [results, Try.f31, go_sem]
        · have hfold := (fold_str (e := e) HV.out HT.out hT0 (by omega) (by omega) l.length (Nat.le_refl _)).2.2
          rw [← hys] at hfold
          refine ints_blk (((belowK_b (n₀ := t + 1) (w := W9) (by omega) W D _ _ hD hDk rfl rfl).block t (by omega)).trans HHH.out.1) fun k hk => (HHH.out.2.1 k hk).trans ?_
          rw [hfold k hk, if_pos hk]
          unfold setV
          rw [if_neg (by omega), if_neg (by rw [HO.out]; omega), HO.out, HT.out]
          rfl
      case stop => exact fun _ _ _ _ _ _ h => h.elim
end Go.Proofs.Ytjckbdbjcgjcaaa.Gu
