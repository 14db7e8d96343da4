/- The walk of BreakerTails. -/
import Derived.Test.YtogkjaohphnflaaBrkRest
import Derived.Deep.RegionHeld3
namespace Go.Proofs.Ytogkjaohphnflaa
open Go.RowKit
theorem first_line {ps : List Pc} {wd ind : Int} (hp : parB ps wd ind = true) : bestP ps wd ind = [0] ∨ ∃ (en : Nat) (Q : List Nat), 0 < en ∧ en < ps.length ∧ bestP (ps.drop en) (wd - ind) 0 = Q ∧ bestP ps wd ind = 0 :: Q.map (en + ·) ∧ legV ps 0 en wd = true ∧
    (bestT ps wd ind).dm = demV ps 0 en wd + (bestT (ps.drop en) (wd - ind) 0).dm + pnAt ps en ∧ ∃ Q', Q = 0 :: Q' := by
  obtain ⟨hv, hf⟩ := parB_iff.1 hp
  have h1 := (validB_iff.1 hv).1.1
  have hG : ∀ i, i < ps.length → gG ps wd ind i (i + 1) = true := fun i _ => gG_one ps wd ind i
  have hst := path_step (C := cC ps wd ind) hG (i := 0) (by omega)
  have hen := tail_en (C := cC ps wd ind) hG (i := 0) (by omega)
  obtain ⟨_, b2, b3, _⟩ := best_of (C := cC ps wd ind) hG (i := 0) (Nat.zero_le _)
  obtain ⟨en, he⟩ : ∃ en, (tailT ps.length (cC ps wd ind) (gG ps wd ind) 0).en = en := ⟨_, rfl⟩
  rw [he] at hst hen
  obtain ⟨_, d2, d3, _⟩ := best_of (C := cC ps wd ind) hG (i := en) hen.2
  by_cases hlt : en < ps.length
  · right
    obtain ⟨t1, t2⟩ := tails_law (wd := wd) (ind := ind) hv hen.1 hlt
    have hpd := parB_iff.1 (par_drop hp hlt)
    obtain ⟨_, q2, _, _⟩ := best_of (n := (ps.drop en).length) (C := cC (ps.drop en) (wd - ind) 0) (G := gG (ps.drop en) (wd - ind) 0) (fun i _ => gG_one _ _ _ i) (i := 0) (Nat.zero_le _)
    rw [hst] at b2 b3
    have hnx := d2.nxt_eq
    have hg := b2.2.2.2.1
    have hc : cC ps wd ind 0 (nxt ps.length (pathT ps.length (tailT ps.length (cC ps wd ind) (gG ps wd ind)) en)) + cst ps.length (cC ps wd ind) (pathT ps.length (tailT ps.length (cC ps wd ind) (gG ps wd ind)) en) = (bestT ps wd ind).dm := b3
    rw [hnx] at hg hc
    refine ⟨en, _, hen.1, hlt, rfl, ?_, hg, ?_, ?_⟩
    · show pathT _ _ 0 = _
      rw [hst, t1]
    · rw [← hc, d3, t2]
      show demV ps 0 en wd + _ = _
      omega
    · show ∃ Q', pathT _ _ 0 = 0 :: Q'
      cases hq : pathT (ps.drop en).length (tailT (ps.drop en).length (cC (ps.drop en) (wd - ind) 0) (gG (ps.drop en) (wd - ind) 0)) 0 with
      | nil =>
        rw [hq] at q2
        have : 0 = (ps.drop en).length := q2
        rw [List.length_drop] at this
        omega
      | cons a s =>
        rw [hq] at q2
        rw [q2.1]
        exact ⟨_, rfl⟩
  · left
    obtain rfl : en = ps.length := by omega
    show pathT _ _ 0 = _
    rw [hst, path_end]
theorem at_shift (en : Nat) (Q : List Nat) (k : Nat) (hk : k < Q.length) : lAt ((0 :: Q.map (en + ·)).map Int.ofNat) (k + 1) = (en : Int) + lAt (Q.map Int.ofNat) k := by
  simp [lAt, List.getD, hk]
theorem lAt_one (en : Nat) (Q : List Nat) (h : ∃ Q', Q = 0 :: Q') : lAt ((0 :: Q.map (en + ·)).map Int.ofNat) 1 = (en : Int) := by
  obtain ⟨Q', rfl⟩ := h
  rfl
theorem pcs_drop {w : World} {B b o : Nat} {ps : List Pc} (h : Pcs w B (some ⟨b, o, none⟩) ps) {s : Nat} (hs : s < ps.length) : Pcs w B (some ⟨b, o + s * 3, none⟩) (ps.drop s) := fun _ => by
  obtain ⟨b', o', he, hB, hc⟩ := h (by omega)
  cases he
  refine ⟨b, o + s * 3, rfl, hB, fun k hk => ?_⟩
  rw [List.length_drop] at hk
  have := hc (s + k) (by omega)
  rw [wd_drop, sp_drop, pn_drop, show o + s * 3 + k * 3 = o + (s + k) * 3 by omega]
  exact this
theorem isP_lt {n : Nat} {G : Nat → Nat → Bool} : ∀ {s : List Nat} {i : Nat}, IsP n G i s → ∀ x ∈ s, x < n
  | [], _, _, x, hx => by cases hx
  | a :: s, _, h, x, hx => by
    obtain ⟨rfl, h1, h2, _, h4⟩ := h
    rcases List.mem_cons.1 hx with rfl | hx
    · omega
    · exact isP_lt h4 x hx
theorem best_lt {ps : List Pc} {wd ind : Int} {k : Nat} (hk : k < (bestP ps wd ind).length) : 0 ≤ lAt ((bestP ps wd ind).map Int.ofNat) k ∧ lAt ((bestP ps wd ind).map Int.ofNat) k < ps.length := by
  have h := isP_lt (best_of (n := ps.length) (C := cC ps wd ind) (G := gG ps wd ind) (fun i _ => gG_one ps wd ind i) (i := 0) (Nat.zero_le _)).2.1
  have h2 : (bestP ps wd ind)[k] < ps.length := h _ (List.getElem_mem hk)
  have e : lAt ((bestP ps wd ind).map Int.ofNat) k = ((bestP ps wd ind)[k] : Int) := by simp [lAt, List.getD, hk]
  rw [e]
  omega
theorem bestT_dm {ps : List Pc} {wd ind : Int} (h : parB ps wd ind = true) : -100000000000 ≤ (bestT ps wd ind).dm ∧ (bestT ps wd ind).dm ≤ 100000000000 := by
  have := tails_dm (parB_iff.1 h).1 (parB_iff.1 h).2 ps.length (Nat.le_refl _) 0 (Nat.zero_le _)
  have h64 := (validB_iff.1 (parB_iff.1 h).1).1.2
  unfold bestT tailT
  omega
set_option maxRecDepth 100000 in
set_option maxHeartbeats 1000000 in
theorem breakerTails_walk (A : Option Addr) (c : Nat) (ps : List Pc) (wd ind ln : Int) (w : World) (hm : ps.length ≤ lenMax) (hP : Pcs w w.heap.size A ps) (hcap : ps.length ≤ c) (hcm : c ≤ lenMax) :
    Calls Try.prog 3 #[.slice A ps.length c, .agg #[.int .i64 wd, .int .i64 ind, .int .i64 ln]] w fun e w' => e = .returned (.bool true) ∧ Below w.heap.size w w' := by
  have hm' : ps.length ≤ 9223372036854775807 := hm
  have hcm' : c ≤ 9223372036854775807 := hcm
  have HM := Lib.hid hm
  have HP := Lib.hid hP
  clear hm hP hcm
  have HB : Hid (Below w.heap.size w (w.alloc (.cells #[.int .i64 wd, .int .i64 ind, .int .i64 ln] 24))) := (Below.refl _ _).alloc (Nat.le_refl _) _
  cases hv : parB ps wd ind
  · have HV := Lib.hid hv
    clear hv
    go_enter Try.func3, Try.ntmps3
    go_wp2_with fail
    refine (bawake_any _).mono ?_
    rintro e w1 ⟨rfl, hb1⟩
    have f0 := kept_box hb1 0 _ rfl
    have f1 := kept_box hb1 1 _ rfl
    have f2 := kept_box hb1 2 _ rfl
    go_wp2_with fail
    refine (fits_at _ _ ps _ _ _ _ HV.out HM.out (HP.out.next (below_next HB.out hb1))).mono ?_
    rintro e w2 ⟨rfl, hb2⟩
    go_wp2
    go_ret
    exact ⟨rfl, below_next HB.out (below_next hb1 hb2)⟩
  · have HV := Lib.hid hv
    have HVV := Lib.hid (parB_iff.1 hv).1
    have hff := fitsB_iff.1 (parB_iff.1 hv).2
    have h64 := (validB_iff.1 HVV.out).1.2
    have h10 := (validB_iff.1 HVV.out).1.1
    have hsub : IntKind.i64.wrap (wd - ind) = wd - ind := IntWalk.i64_in _ (by omega)
    have hcase := first_line hv
    clear hv
    go_enter Try.func3, Try.ntmps3
    go_wp2_with fail
    refine (bawake_any _).mono ?_
    rintro e w1 ⟨rfl, hb1⟩
    have f0 := kept_box hb1 0 _ rfl
    have f1 := kept_box hb1 1 _ rfl
    have f2 := kept_box hb1 2 _ rfl
    go_wp2_with fail
    refine (fits_at _ _ ps _ _ _ _ HV.out HM.out (HP.out.next (below_next HB.out hb1))).mono ?_
    rintro e w2 ⟨rfl, hb2⟩
    have HB2 := Lib.hid (below_next hb1 hb2)
    have HW2 : Hid (Below w.heap.size w w2) := below_next HB.out HB2.out
    have f0 := kept_box HB2.out 0 _ rfl
    have f1 := kept_box HB2.out 1 _ rfl
    clear hb1 hb2 f2
    rcases hcase with hone | ⟨en, Q, e1, e2, e3, e4, e5, e6, e7⟩
    · have HO := Lib.hid hone
      clear hone
      go_wp2_with fail
      refine (Best_is _ _ ps _ _ _ HV.out HO.out rfl (HP.out.next HW2.out)).mono ?_
      rintro e w4 ⟨⟨A', c', rfl, hI⟩, hb4⟩
      clear hI
      simp only [List.length_cons, List.length_nil, Nat.reduceAdd]
      go_wp2
      go_ret
      exact ⟨rfl, below_next HW2.out hb4⟩
    · have h7 : 0 < Q.length := by obtain ⟨Q', rfl⟩ := e7; simp
      have hQl : Q.length ≤ 64 := by
        rw [← e3]
        have := isP_len (best_of (n := (ps.drop en).length) (C := cC (ps.drop en) (wd - ind) 0) (G := gG (ps.drop en) (wd - ind) 0) (fun i _ => gG_one _ _ _ i) (i := 0) (Nat.zero_le _)).2.1
        rw [List.length_drop] at this
        unfold bestP
        rw [List.length_drop]
        omega
      have HE3 := Lib.hid e3
      have HE4 := Lib.hid e4
      have HE5 := Lib.hid e5
      have hpd := par_drop HV.out e2
      have b1 := bestT_dm hpd
      have b2 := demV_bound HVV.out (i := 0) (j := en) (by omega) (by omega) hff.1 hff.2.1
      have b3 := allOk_at (validB_iff.1 HVV.out).2 e2
      obtain ⟨t2, ht2⟩ : ∃ t, (bestT (ps.drop en) (wd - ind) 0).dm = t := ⟨_, rfl⟩
      obtain ⟨x, hx⟩ : ∃ x, demV ps 0 en wd = x := ⟨_, rfl⟩
      obtain ⟨y, hy⟩ : ∃ y, pnAt ps en = y := ⟨_, rfl⟩
      rw [ht2, hx, hy] at e6
      rw [ht2] at b1
      rw [hx] at b2
      have hyb : -10000 ≤ y ∧ y ≤ 10000 := by rw [← hy]; exact ⟨b3.2.2.2.2.1, b3.2.2.2.2.2⟩
      have s1 : IntKind.i64.wrap (x + t2) = x + t2 := IntWalk.i64_in _ (by omega)
      have s2 : IntKind.i64.wrap (x + t2 + y) = x + t2 + y := IntWalk.i64_in _ (by omega)
      have hqb : ∀ k, k < Q.length → 0 ≤ lAt (Q.map Int.ofNat) k ∧ lAt (Q.map Int.ofNat) k < 64 := fun k hk => by
        subst e3
        have := best_lt hk
        rw [List.length_drop] at this
        omega
      have HPD := Lib.hid hpd
      have HT := Lib.hid e6
      have HT2 := Lib.hid ht2
      have HX := Lib.hid hx
      have HY := Lib.hid hy
      have HE7 := Lib.hid e7
      have HQB := Lib.hid hqb
      clear e3 e4 e5 e6 e7 ht2 hx hy b1 b2 b3 hpd hqb hyb
      go_wp2_with fail
      refine (Best_is _ _ ps _ _ _ HV.out HE4.out HT.out (HP.out.next HW2.out)).mono ?_
      rintro e w4 ⟨⟨A', c', rfl, hI⟩, hb4⟩
      simp only [List.length_cons, List.length_map]
      obtain ⟨b4, o4, rfl, hlt4, hc4⟩ := hI (by simp)
      have g1 := hc4 1 (by simp; omega)
      rw [lAt_one en Q HE7.out] at g1
      have hc5 : ∀ k, k < Q.length → w4.cell? ⟨b4, o4 + (k + 1), none⟩ = some (.int .i64 ((en : Int) + lAt (Q.map Int.ofNat) k)) := fun k hk => by
        rw [← at_shift en Q k hk]
        exact hc4 (k + 1) (by simp; omega)
      have HC5 := Lib.hid hc5
      clear hc4 hc5 hI f0 f1
      have HW4 : Hid (Below w.heap.size w w4) := below_next HW2.out hb4
      have f0 := kept_box (below_next HB2.out hb4) 0 _ rfl
      have f1 := kept_box (below_next HB2.out hb4) 1 _ rfl
      have hbox : w.heap.size < w4.heap.size := by have := HB2.out.size; have := hb4.size; simp at *; omega
      clear hb4
      obtain ⟨bP, oP, rfl, hbP, _⟩ := HP.out (by omega)
      have hx1 : ((en : Int) ≤ (ps.length : Int)) := by omega
      have hce : ¬ c = en := by omega
      have hx2 : (1 : Int) < (Q.length : Int) + 1 := by omega
      have hx3 : (0 : Int) < (Q.length : Int) := by omega
      have hx4 : 1 < Q.length + 1 := by omega
      have hx5 : ¬ Q.length = 0 := by omega
      have HCB : Hid (∀ X, Pcs X X.heap.size (some ⟨bP, oP + en * 3, none⟩) (ps.drop en) → Calls Try.prog 12 #[.slice (some ⟨bP, oP + en * 3, none⟩) (ps.length - en) (c - en), .int .i64 (wd - ind), .int .i64 0] X fun e w' =>
          (∃ A' c', e = .returned (.tuple #[.slice A' Q.length c', .int .i64 t2, .int .i64 0]) ∧ Ints w' w'.heap.size A' (Q.map Int.ofNat)) ∧ Below X.heap.size X w') := fun X hX => by
        have := Best_is (some ⟨bP, oP + en * 3, none⟩) (c - en) (ps.drop en) (wd - ind) 0 X HPD.out HE3.out HT2.out hX
        rw [List.length_drop] at this
        exact this
      have HCL : Hid (∀ X, Pcs X X.heap.size (some ⟨bP, oP, none⟩) ps → Calls Try.prog 13 #[.slice (some ⟨bP, oP, none⟩) ps.length c, .int .i64 0, .int .i64 (en : Int), .int .i64 wd] X fun e w' =>
          e = .returned (.tuple #[.int .i64 x, .int .i64 0]) ∧ Below X.heap.size X w') := fun X hX => by
        have := Line_in (some ⟨bP, oP, none⟩) c ps 0 en wd X (by omega) (by omega) (by omega) hff.1 hff.2.1 HVV.out hX (r := true) HE5.out
        rw [← HX.out]
        exact this
      go_wp2_with fail
      go_region_held3 (fun W => W.cell? ⟨w.heap.size, 0, none⟩ = some (.int .i64 wd) ∧ W.cell? ⟨w.heap.size, 1, none⟩ = some (.int .i64 ind) ∧ W.cell? ⟨b4, o4 + 1, none⟩ = some (.int .i64 (en : Int))) (go_keep)
        (first
          | (go_at_call 12; refine (HCB.out _ (pcs_drop (HP.out.next HW4.out.drew) e2)).mono ?_; rintro e w5 ⟨⟨A2, c2, rfl, hI2⟩, hb5⟩
             have hb5' : Below w4.heap.size w4 w5 := (Below.refl _ w4).drew.trans hb5
             have f0' := (hb5'.cell (p := ⟨w.heap.size, 0, none⟩) hbox).trans f0
             have f1' := (hb5'.cell (p := ⟨w.heap.size, 1, none⟩) hbox).trans f1
             have g1' := (hb5'.cell (p := ⟨b4, o4 + 1, none⟩) hlt4).trans g1))
      clear f0 f1 g1 hb5
      have HI2 := Lib.hid hI2
      clear hI2
      have HW5 : Hid (Below w.heap.size w w5) := below_next HW4.out hb5'
      have hbox5 : w.heap.size < w5.heap.size := by have := hb5'.size; omega
      have hlt5 : b4 < w5.heap.size := by have := hb5'.size; omega
      have HB5 := Lib.hid hb5'
      clear hb5'
      go_wp2_with fail
      go_region_held3 (fun W => W.cell? ⟨w.heap.size, 0, none⟩ = some (.int .i64 wd) ∧ W.cell? ⟨w.heap.size, 1, none⟩ = some (.int .i64 ind) ∧ W.cell? ⟨b4, o4 + 1, none⟩ = some (.int .i64 (en : Int))) (go_keep)
        (first
          | (go_at_call 13; refine (HCL.out _ (HP.out.next HW5.out.drew)).mono ?_; rintro e w6 ⟨rfl, hb6⟩
             have hb6' : Below w5.heap.size w5 w6 := (Below.refl _ w5).drew.trans hb6
             have f0'' := (hb6'.cell (p := ⟨w.heap.size, 0, none⟩) hbox5).trans f0'
             have f1'' := (hb6'.cell (p := ⟨w.heap.size, 1, none⟩) hbox5).trans f1'
             have g1'' := (hb6'.cell (p := ⟨b4, o4 + 1, none⟩) hlt5).trans g1'))
      clear f0' f1' g1' hb6 f0'' f1''
      have HW6 : Hid (Below w.heap.size w w6) := below_next HW5.out hb6'
      have HB46 : Hid (Below w4.heap.size w4 w6) := below_next HB5.out hb6'
      have HI6 : Hid (Ints w6 w6.heap.size A2 (Q.map Int.ofNat)) := HI2.out.next hb6'
      clear hb6'
      have p2 : w6.cell? ⟨bP, oP + en * 3 + 2, none⟩ = some (.int .i64 y) := by
        obtain ⟨b', o', he, hB', hc'⟩ := HP.out (by omega)
        cases he
        rw [← HY.out]
        exact (HW6.out.cell (p := ⟨bP, oP + en * 3 + 2, none⟩) hB').trans (hc' en e2).2.2
      go_wp2_with fail
      go_loopw [13] (fun q wr => ∃ k : Nat, k ≤ Q.length ∧ q = .int .i64 (k : Int) ∧ Below w6.heap.size w6 wr) (fun q _ => Q.length - (intOf q).toNat)
      case atStart => exact ⟨0, Nat.zero_le _, rfl, Below.refl _ _⟩
      case round =>
        obtain ⟨k, hk, rfl, hbw⟩ := hrel
        have HBW := Lib.hid hbw
        clear hbw
        by_cases hlt : k < Q.length
        · obtain ⟨b5, o5, rfl, hb5', hc5⟩ := HI6.out (by simp; omega)
          have l1 := (HBW.out.cell (p := ⟨b5, o5 + k, none⟩) hb5').trans (hc5 k (by simpa using hlt))
          have l2 := (HBW.out.cell (p := ⟨b4, o4 + (k + 1), none⟩) (by have := HB46.out.size; show b4 < _; omega)).trans ((HB46.out.cell (p := ⟨b4, o4 + (k + 1), none⟩) hlt4).trans (HC5.out k hlt))
          have l3 := (HBW.out.cell (p := ⟨b4, o4 + 1, none⟩) (by have := HB46.out.size; show b4 < _; omega)).trans g1''
          have hq := HQB.out k hlt
          rw [Int.add_comm] at l2
          generalize lAt (Q.map Int.ofNat) k = z at l1 l2 hq
          have s3 : IntKind.i64.wrap (z + (en : Int)) = z + (en : Int) := IntWalk.i64_in _ (by omega)
          clear hc5 g1'' p2
          go_wp2_with fail
          go_quiet (fail)
          go_wp2_with fail
          go_roundw
          case rel => exact ⟨k + 1, by omega, by go_num, below_drewN HBW.out nq⟩
          case measure => simp [intOf]; omega
        · obtain rfl : k = Q.length := by omega
          go_wp2
          go_ret
          exact ⟨rfl, below_next HW6.out HBW.out⟩
end Go.Proofs.Ytogkjaohphnflaa
