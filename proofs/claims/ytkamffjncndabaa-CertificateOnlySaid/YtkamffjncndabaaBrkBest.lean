/- breaker.Best. -/
import Derived.Test.YtkamffjncndabaaBrkTails
import Derived.Test.YtkamffjncndabaaBrkValid
namespace Go.Proofs.Ytkamffjncndabaa
open Go.RowKit
theorem infoT : (Try.prog.info? 70).map (fun i => (i.zero, i.size, i.bytes)) = some (some (.agg zeroTl), 3, 24) := by kernel_rfl
theorem infoI : (Try.prog.info? 3).map (fun i => (i.zero, i.size, i.bytes)) = some (some (.int .i64 0), 1, 8) := by kernel_rfl
theorem make_tails (n : Nat) (hn : n ≤ 64) (W : World) : (Instr.makeSlice 68 (.int .i64 ((n : Int) + 1)) (.int .i64 ((n : Int) + 1))).run Try.prog W =
    .ok (.slice (some ⟨W.heap.size, 0, none⟩) (n + 1) (n + 1)) (W.alloc (.cells (madeCells zeroTl ((n + 1) * 3)) 70)) := by
  obtain ⟨i, hi, hz, hs, hb⟩ := info_parts infoT
  have h := run_make (P := Try.prog) W 68 70 i (.agg zeroTl) Try.underlying68 hi hz .i64 .i64 ((n : Int) + 1) ((n : Int) + 1) (by omega) (by omega) (by rw [hb]; omega) (by omega)
  rw [hs, show ((n : Int) + 1).toNat = n + 1 by omega] at h
  exact h
set_option maxRecDepth 100000 in
set_option maxHeartbeats 1000000 in
theorem Best_no (A : Option Addr) (c : Nat) (ps : List Pc) (wd ind : Int) (w : World) (hp : parB ps wd ind = false) (hm : ps.length ≤ lenMax) (hP : Pcs w w.heap.size A ps) :
    Calls Try.prog 22 #[.slice A ps.length c, .int .i64 wd, .int .i64 ind] w fun e w' => e = .returned (.tuple #[.slice none 0 0, .int .i64 0, .int .i64 1]) ∧ Below w.heap.size w w' := by
  have HM := Lib.hid hm
  have HP := Lib.hid hP
  have HQ := Lib.hid hp
  clear hm hP hp
  have HB : Hid (Below w.heap.size w (w.alloc (.cells #[.slice A ps.length c, .int .i64 wd, .int .i64 ind] 67))) := (Below.refl _ _).alloc (Nat.le_refl _) _
  go_enter Try.func22, Try.ntmps22
  go_wp2_with fail
  refine (pvalid_at _ _ ps _ _ _ HQ.out HM.out (HP.out.next HB.out)).mono ?_
  rintro e w1 ⟨rfl, hb1⟩
  go_wp2
  go_ret3
  exact ⟨rfl, below_next HB.out hb1⟩
set_option maxRecDepth 100000 in
set_option maxHeartbeats 1000000 in
theorem Best_yes (A : Option Addr) (c : Nat) (ps : List Pc) (wd ind : Int) (w : World) (hv : validB ps = true) (hf : fitsB wd ind = true) (hP : Pcs w w.heap.size A ps) :
    Calls Try.prog 22 #[.slice A ps.length c, .int .i64 wd, .int .i64 ind] w fun e w' =>
      (∃ A' c', e = .returned (.tuple #[.slice A' (bestP ps wd ind).length c', .int .i64 (bestT ps wd ind).dm, .int .i64 0]) ∧ Ints w' w'.heap.size A' ((bestP ps wd ind).map Int.ofNat)) ∧ Below w.heap.size w w' := by
  have h64 := (validB_iff.1 hv).1.2
  have h1 := (validB_iff.1 hv).1.1
  have HM : Hid (ps.length ≤ lenMax) := by show _ ≤ _; unfold lenMax; omega
  have HP := Lib.hid hP
  have HQ : Hid (parB ps wd ind = true) := parB_iff.2 ⟨hv, hf⟩
  have HV := Lib.hid hv
  have HF := Lib.hid hf
  have hmk := make_tails ps.length h64
  clear hv hf hP
  have HB : Hid (Below w.heap.size w (w.alloc (.cells #[.slice A ps.length c, .int .i64 wd, .int .i64 ind] 67))) := (Below.refl _ _).alloc (Nat.le_refl _) _
  go_enter Try.func22, Try.ntmps22
  go_wp2_with fail
  refine (pvalid_at _ _ ps _ _ _ HQ.out HM.out (HP.out.next HB.out)).mono ?_
  rintro e w1 ⟨rfl, hb1⟩
  have HB1 : Hid (Below w.heap.size w w1) := below_next HB.out hb1
  have hbP := (hb1.block w.heap.size (by simp)).trans (World.alloc_heap_new w _)
  have HHP := Lib.hid hbP
  have hlt1 : w.heap.size < w1.heap.size := by have := hb1.size; simp at this; omega
  clear hbP hb1
  have e0 : IntKind.i64.wrap ((ps.length : Int) + 1) = (ps.length : Int) + 1 := IntWalk.i64_in _ (by omega)
  have b0 := World.alloc_heap_new w1 (.cells (madeCells zeroTl ((ps.length + 1) * 3)) 70)
  have t0 := blk_cell b0 (ps.length * 3) _ (tlsC_made ps.length ps.length (Nat.le_refl _)).1
  have z0 := blk_free b0 (ps.length * 3)
  have HB0 := Lib.hid b0
  clear b0
  go_wp2_with fail
  have hT0 := tlsC_end (tlsC_made ps.length)
  generalize hcs : (madeCells zeroTl ((ps.length + 1) * 3)).setIfInBounds (ps.length * 3) (Value.bool true) = cs0 at hT0 ⊢
  clear hcs t0 z0 hmk e0
  obtain ⟨bT, hbTe⟩ : ∃ b, b = w1.heap.size := ⟨_, rfl⟩
  have hW0h : (w1.alloc (.cells cs0 70)).heap[bT]? = some (.cells cs0 70 (0, 0)) := by rw [hbTe]; exact World.alloc_heap_new w1 _
  have hW0s : (w1.alloc (.cells cs0 70)).heap.size = bT + 1 := by rw [hbTe]; simp
  have hW0B : Below w.heap.size w (w1.alloc (.cells cs0 70)) := HB1.out.alloc HB1.out.size _
  have hW0P : (w1.alloc (.cells cs0 70)).heap[w.heap.size]? = some (.cells #[.slice A ps.length c, .int .i64 wd, .int .i64 ind] 67 (0, 0)) := blk_more HHP.out _
  rw [← hbTe] at hlt1 ⊢
  generalize (w1.alloc (.cells cs0 70)) = W0 at hW0h hW0s hW0B hW0P ⊢
  have HW0 := Lib.hid (And.intro hW0h (And.intro hW0B hW0P))
  clear hW0h hW0B hW0P hbTe
  have HT0 := Lib.hid hT0
  clear hT0
  go_loopw [12] (fun q wr => ∃ (d : Nat) (cs : Array Value), d ≤ ps.length ∧ q = .int .i64 ((ps.length : Int) - 1 - (d : Int)) ∧ wr.heap[bT]? = some (.cells cs 70 (0, 0)) ∧ TlsC cs ps.length (tailsF ps.length (cC ps wd ind) (gG ps wd ind) d) ∧ Below bT W0 wr) (fun q _ => (intOf q + 1).toNat)
  case atStart => exact ⟨0, cs0, Nat.zero_le _, by go_num, HW0.out.1, HT0.out, Below.refl _ _⟩
  case round =>
    obtain ⟨d, cs, hd, rfl, hwT, hTC, hbw⟩ := hrel
    have hsz := hbw.size
    rw [hW0s] at hsz
    have hbr : Below w.heap.size w wr := HW0.out.2.1.trans (hbw.mono (by omega))
    have hP1 := (hbw.block w.heap.size hlt1).trans HW0.out.2.2
    have p0 := blk_cell hP1 0 _ rfl
    have p1 := blk_cell hP1 1 _ rfl
    have p2 := blk_cell hP1 2 _ rfl
    have HP1 := Lib.hid hP1
    have HBR := Lib.hid hbr
    have HBW := Lib.hid hbw
    have HWT := Lib.hid hwT
    have HTC := Lib.hid hTC
    clear hP1 hbr hbw hwT hTC
    by_cases hlt : d < ps.length
    · obtain ⟨j, hj, hjd⟩ : ∃ j : Nat, (ps.length : Int) - 1 - (d : Int) = (j : Int) ∧ j = ps.length - 1 - d := ⟨ps.length - 1 - d, by omega, rfl⟩
      rw [hj]
      have hjl : j < ps.length := by omega
      have HJ := Lib.hid (And.intro hj hjd)
      clear hj hjd
      have HC := extend_nat A c ps wd ind j (some ⟨bT, 0, none⟩) (ps.length + 1) (tailsF ps.length (cC ps wd ind) (gG ps wd ind) d) wr hjl HV.out HF.out (HP.out.next HBR.out) (tls_of HWT.out HTC.out (by omega)) (tails_TB HV.out HF.out hd)
      go_wp2_with fail
      refine HC.mono ?_
      rintro e w4 ⟨he, hb4⟩
      obtain ⟨r, hr⟩ : ∃ r, ext ps.length (cC ps wd ind) (gG ps wd ind) (tailsF ps.length (cC ps wd ind) (gG ps wd ind) d) j (ps.length - j) = r := ⟨_, rfl⟩
      rw [hr] at he
      unfold tlV at he
      subst he
      have HR := Lib.hid hr
      clear hr
      have h4 := (hb4.block bT (by omega)).trans HWT.out
      have HB4 := Lib.hid hb4
      obtain ⟨g0, g1, g2⟩ := HTC.out j (by omega)
      replace g0 := blk_cell h4 (j * 3) _ g0
      replace g1 := blk_cell h4 (j * 3 + 1) _ g1
      replace g2 := blk_cell h4 (j * 3 + 2) _ g2
      have z0 := blk_free h4 (j * 3)
      have z1 := blk_free h4 (j * 3 + 1)
      have z2 := blk_free h4 (j * 3 + 2)
      have H4 := Lib.hid h4
      clear h4 hb4
      go_wp2
      go_roundw
      case rel =>
        refine ⟨d + 1, _, by omega, ?_, blk_set (blk_set (blk_set H4.out (j * 3) _) (j * 3 + 1) _) (j * 3 + 2) _, tlsC_congr (tlsC_set HTC.out (by omega) r) (fun k hk => ?_), (((HBW.out.trans (HB4.out.mono (by omega))).setCell (p := ⟨bT, j * 3, none⟩) (Nat.le_refl _) _).setCell (p := ⟨bT, j * 3 + 1, none⟩) (Nat.le_refl _) _).setCell (p := ⟨bT, j * 3 + 2, none⟩) (Nat.le_refl _) _⟩
        · congr 1
          have := HJ.out.1
          omega
        · show _ = (if k = ps.length - 1 - d then ext ps.length (cC ps wd ind) (gG ps wd ind) (tailsF ps.length (cC ps wd ind) (gG ps wd ind) d) k (ps.length - k) else tailsF ps.length (cC ps wd ind) (gG ps wd ind) d k)
          rw [← HJ.out.2]
          by_cases hk2 : k = j
          · subst hk2
            rw [if_pos rfl, if_pos rfl, HR.out]
          · rw [if_neg hk2, if_neg hk2]
      case measure => simp [intOf]
    · obtain rfl : d = ps.length := by omega
      rw [show (ps.length : Int) - 1 - (ps.length : Int) = -1 by omega]
      clear p0 p1 p2 hlt
      obtain ⟨wo, rfl⟩ : ∃ wo : World, wo = wr := ⟨_, rfl⟩
      have hTC : TlsC cs ps.length (tailT ps.length (cC ps wd ind) (gG ps wd ind)) := HTC.out
      have HTT := Lib.hid hTC
      clear hTC
      have hG : ∀ i, i < ps.length → gG ps wd ind i (i + 1) = true := fun i _ => gG_one ps wd ind i
      have hlenP : (bestP ps wd ind).length ≤ ps.length := isP_len (best_of (C := cC ps wd ind) hG (Nat.zero_le _)).2.1
      have HGG := Lib.hid hG
      have HLP := Lib.hid hlenP
      clear hG hlenP
      obtain ⟨i0, hi0, hz0, hz1, hz2⟩ := info_parts infoI
      go_wp2_with fail
      go_loopw [6, 13] (fun v q wr => ∃ (pre : List Nat) (i : Nat) (A' : Option Addr) (c' : Nat), i ≤ ps.length ∧ q = .int .i64 (i : Int) ∧ v = .slice A' pre.length c' ∧ pre ++ pathT ps.length (tailT ps.length (cC ps wd ind) (gG ps wd ind)) i = bestP ps wd ind ∧
        Owns wr wo.heap.size 3 A' c' (pre.map Int.ofNat) ∧ Below wo.heap.size wo wr) (fun _ q _ => ps.length - (intOf q).toNat)
      case atStart => exact ⟨[], 0, none, 0, Nat.zero_le _, rfl, rfl, rfl, Owns.nil _ _ _, Below.refl _ _⟩
      case round =>
        obtain ⟨pre, i, A', c', hi, rfl, rfl, hpre, hown, hnx⟩ := hrel
        have hlen : pre.length ≤ ps.length := by
          have := HLP.out
          rw [← hpre, List.length_append] at this
          omega
        have HO := Lib.hid hown
        have HPR := Lib.hid hpre
        have HNX := Lib.hid hnx
        clear hown hpre hnx
        by_cases hlt : i < ps.length
        · have hen := tail_en (C := cC ps wd ind) HGG.out hlt
          have HST := Lib.hid (path_step (C := cC ps wd ind) HGG.out hlt)
          have HK := Lib.hid (HTT.out i (by omega)).2.2
          obtain ⟨en, hen'⟩ : ∃ en, (tailT ps.length (cC ps wd ind) (gG ps wd ind) i).en = en := ⟨_, rfl⟩
          rw [hen'] at hen HST HK
          clear hen'
          go_wp2_with (at_builtin; refine wpList_append_one rfl _ _ 26 3 rfl i0 Try.underlying26 hi0 hz0 hz1 hz2 (l := pre.map Int.ofNat) (by simp) rfl (HO.out.alloc _) rfl (heap_alloc_new _ _) (by simp; omega) (by have := HNX.out.size; simp; omega) ?_; intro A2 c2 w5 hown2 hb5; have l2 := blk_cell ((hb5.block bT (by omega)).trans (((HNX.out.alloc HNX.out.size _).block bT (by omega)).trans HWT.out)) (i * 3 + 2) _ HK.out; have HO5 := Lib.hid hown2; have HB5 := Lib.hid hb5; clear hown2 hb5)
          go_roundw
          case rel =>
            refine ⟨pre ++ [i], en, A2, c2, hen.2, rfl, by rw [List.length_append]; rfl, ?_, ?_, (HNX.out.alloc HNX.out.size _).trans HB5.out⟩
            · rw [List.append_assoc]
              show pre ++ (i :: pathT ps.length (tailT ps.length (cC ps wd ind) (gG ps wd ind)) en) = _
              rw [← HST.out]
              exact HPR.out
            · rw [List.map_append]
              exact HO5.out
          case measure => simp [intOf]; omega
        · obtain rfl : i = ps.length := by omega
          have hfull : pre = bestP ps wd ind := by have := HPR.out; rw [path_end, List.append_nil] at this; exact this
          subst hfull
          have l0 := blk_cell ((HNX.out.block bT (by omega)).trans HWT.out) 1 (.int .i64 (bestT ps wd ind).dm) (HTT.out 0 (Nat.zero_le _)).2.1
          go_wp2_with fail
          go_quiet (fail)
          go_wp2
          go_ret3
          have hd : Below wr.heap.size wr (wr.drewN nq) := below_drewN (Below.refl _ _) nq
          exact ⟨⟨_, _, rfl, (HO.out.below hd).ints⟩, below_next HBR.out (HNX.out.trans (hd.mono HNX.out.size))⟩
end Go.Proofs.Ytkamffjncndabaa
