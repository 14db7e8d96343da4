/- The walk of BreakerPenalties. -/
import Derived.Test.YtogkjaohphnflaaBrkLines
import Derived.Test.YtogkjaohphnflaaBrkWide
import Derived.Test.YtogkjaohphnflaaAppPcs
namespace Go.Proofs.Ytogkjaohphnflaa
open Go.RowKit
theorem info34 : (Try.prog.info? 34).map (fun i => (i.zero, i.size, i.bytes)) = some (some (.agg #[.int .i64 0, .int .i64 0, .int .i64 0]), 3, 24) := by kernel_rfl
theorem Lines_is {P : List Nat} {t E : Int} (A : Option Addr) (c : Nat) (ps : List Pc) (wd ind k : Int) (w : World) (h1 : linesP ps wd ind k = P) (h2 : linesN ps wd ind k = t) (h3 : linesE ps wd ind k = E) (hm : ps.length ≤ lenMax) (hP : Pcs w w.heap.size A ps) :
    Calls Try.prog 19 #[.slice A ps.length c, .int .i64 wd, .int .i64 ind, .int .i64 k] w (LinesTo P t E w) := by
  rw [← h1, ← h2, ← h3]; exact Lines_any A c ps wd ind k w hm hP
theorem Lines_len {P : List Nat} {t E : Int} {n : Nat} (A : Option Addr) (c : Nat) (ps : List Pc) (wd ind k : Int) (w : World) (hn : ps.length = n) (h1 : linesP ps wd ind k = P) (h2 : linesN ps wd ind k = t) (h3 : linesE ps wd ind k = E) (hm : n ≤ lenMax) (hP : Pcs w w.heap.size A ps) :
    Calls Try.prog 19 #[.slice A n c, .int .i64 wd, .int .i64 ind, .int .i64 k] w (LinesTo P t E w) := by
  subst hn; exact Lines_is A c ps wd ind k w h1 h2 h3 hm hP
theorem fits_len {r : Bool} {n : Nat} (A : Option Addr) (c : Nat) (ps : List Pc) (wd ind ln : Int) (w : World) (hn : ps.length = n) (hr : parB ps wd ind = r) (hm : n ≤ lenMax) (hP : Pcs w w.heap.size A ps) :
    Calls Try.prog 11 #[.slice A n c, .agg #[.int .i64 wd, .int .i64 ind, .int .i64 ln]] w fun e w' => e = .returned (.bool r) ∧ Below w.heap.size w w' := by
  subst hn; exact fits_at A c ps wd ind ln w hr hm hP
theorem linesP_len {ps : List Pc} {wd ind : Int} (hp : parB ps wd ind = true) (k : Int) : (linesP ps wd ind k).length ≤ ps.length ∧ (linesE ps wd ind k = 0 → ((linesP ps wd ind k).length : Int) = k) := by
  unfold linesP
  split
  · rename_i h
    rw [kP_len]
    unfold linesE at h
    rw [if_pos hp] at h
    by_cases hk : 1 ≤ k ∧ k ≤ (ps.length : Int)
    · omega
    · rw [if_neg hk] at h; cases h
  · rename_i h
    exact ⟨Nat.zero_le _, fun h2 => absurd h2 h⟩
theorem same_eq (A B : Option Addr) (ca cb : Nat) (P : List Nat) (w : World) (hl : P.length ≤ 64) (hA : Ints w w.heap.size A (P.map Int.ofNat)) (hB : Ints w w.heap.size B (P.map Int.ofNat)) :
    Calls Try.prog 15 #[.slice A P.length ca, .slice B P.length cb] w fun e w' => e = .returned (.bool true) ∧ Below w.heap.size w w' := by
  have h := same_at (r := true) A B ca cb (P.map Int.ofNat) (P.map Int.ofNat) w (decide_eq_true rfl) (by rw [List.length_map]; unfold lenMax; omega) (by rw [List.length_map]; unfold lenMax; omega) hA hB
  rw [List.length_map] at h
  exact h
theorem lines_law {ps : List Pc} {d wd ind : Int} (hp : parB ps wd ind = true) (hq : parB (addAll ps d) wd ind = true) (k : Int) :
    linesE (addAll ps d) wd ind k = linesE ps wd ind k ∧ (linesE ps wd ind k = 0 → (1 ≤ k ∧ k ≤ (ps.length : Int)) ∧ linesP (addAll ps d) wd ind k = linesP ps wd ind k ∧ linesN (addAll ps d) wd ind k = linesN ps wd ind k + d * (k - 1)) := by
  by_cases hk : 1 ≤ k ∧ k ≤ (ps.length : Int)
  · obtain ⟨n, rfl⟩ : ∃ n : Nat, k = (n : Int) := ⟨k.toNat, by omega⟩
    obtain ⟨l1, l2⟩ := penalties_law ps d wd ind (k := n) (by omega)
    have e1 : linesE ps wd ind (n : Int) = if (kT ps wd ind n 0).th = true then 0 else 8 := by unfold linesE; rw [if_pos hp, if_pos hk, Int.toNat_natCast]
    have e2 : linesE (addAll ps d) wd ind (n : Int) = if (kT (addAll ps d) wd ind n 0).th = true then 0 else 8 := by unfold linesE; rw [if_pos hq, addAll_len, if_pos hk, Int.toNat_natCast]
    refine ⟨by rw [e1, e2, l1], fun h => ⟨hk, ?_⟩⟩
    rw [e1] at h
    have hth : (kT ps wd ind n 0).th = true := by
      cases hth : (kT ps wd ind n 0).th with
      | true => rfl
      | false => rw [hth] at h; simp at h
    obtain ⟨l3, l4⟩ := l2 hth
    unfold linesP linesN
    rw [e1, e2, l1, hth, Int.toNat_natCast, l3, l4]
    exact ⟨rfl, rfl⟩
  · have e1 : linesE ps wd ind k = 8 := by unfold linesE; rw [if_pos hp, if_neg hk]
    have e2 : linesE (addAll ps d) wd ind k = 8 := by unfold linesE; rw [if_pos hq, addAll_len, if_neg hk]
    exact ⟨by rw [e1, e2], fun h => by rw [e1] at h; cases h⟩
theorem linesN_bound {ps : List Pc} {wd ind : Int} (hp : parB ps wd ind = true) (k : Int) : -64000000000 ≤ linesN ps wd ind k ∧ linesN ps wd ind k ≤ 64000000000 := by
  obtain ⟨hv, hf⟩ := parB_iff.1 hp
  have h64 := (validB_iff.1 hv).1.2
  unfold linesN
  split
  · rename_i h
    unfold linesE at h
    rw [if_pos hp] at h
    by_cases hk : 1 ≤ k ∧ k ≤ (ps.length : Int)
    · have := counted_dm hv hf k.toNat 0 (Nat.zero_le _)
      omega
    · rw [if_neg hk] at h; cases h
  · omega
theorem linesE_cases {ps : List Pc} {wd ind : Int} (hp : parB ps wd ind = true) (k : Int) : linesE ps wd ind k = 0 ∨ linesE ps wd ind k = 8 := by
  unfold linesE
  rw [if_pos hp]
  split
  · split
    · exact .inl rfl
    · exact .inr rfl
  · exact .inr rfl
theorem mul_in {d k : Int} (h1 : -32768 ≤ d) (h2 : d ≤ 32767) (h3 : 0 ≤ k) (h4 : k ≤ 64) : -2097152 ≤ d * k ∧ d * k ≤ 2097152 := by
  constructor
  · have := Int.mul_le_mul_of_nonneg_right h1 h3
    omega
  · have := Int.mul_le_mul_of_nonneg_right h2 h3
    omega
set_option maxRecDepth 100000 in
set_option maxHeartbeats 1000000 in
theorem breakerPen_no (A : Option Addr) (c : Nat) (ps : List Pc) (wd ind ln d : Int) (w : World) (hm : ps.length ≤ lenMax) (hP : Pcs w w.heap.size A ps) (hd1 : -32768 ≤ d) (hd2 : d ≤ 32767) (hv : parB ps wd ind = false) :
    Calls Try.prog 8 #[.slice A ps.length c, .agg #[.int .i64 wd, .int .i64 ind, .int .i64 ln], .int .i16 d] w fun e w' => e = .returned (.bool true) ∧ Below w.heap.size w w' := by
  have hm' : ps.length ≤ 9223372036854775807 := hm
  have HM := Lib.hid hm
  have HP := Lib.hid hP
  have HV := Lib.hid hv
  clear hm hP hv
  have HB : Hid (Below w.heap.size w (w.alloc (.cells #[.int .i64 wd, .int .i64 ind, .int .i64 ln] 24))) := (Below.refl _ _).alloc (Nat.le_refl _) _
  obtain ⟨i0, hi0, hz0, hz1, hz2⟩ := info_parts info34
  by_cases h20 : ps.length ≤ 20
  · have hdec : decide ((20 : Int) < (ps.length : Int)) = false := decide_eq_false (by omega)
    go_enter Try.func8, Try.ntmps8
    go_wp2_with fail
    refine (bawake_any _).mono ?_
    rintro e w1 ⟨rfl, hb1⟩
    have f0 := kept_box hb1 0 _ rfl
    have f1 := kept_box hb1 1 _ rfl
    have f2 := kept_box hb1 2 _ rfl
    have hlt1 : w.heap.size < w1.heap.size := by have := hb1.size; simp at this; omega
    have HB1 : Hid (Below w.heap.size w w1) := below_next HB.out hb1
    have HMB := Lib.hid ((hb1.block w.heap.size (by simp)).trans (blk_new w (.cells #[.int .i64 wd, .int .i64 ind, .int .i64 ln] 24)))
    clear hb1
    go_wp2_with (at_builtin; refine wpList_append_copy rfl _ _ 22 34 rfl i0 _ 3 24 Try.underlying22 hi0 hz0 hz1 hz2 rfl (by decide) rfl rfl (heap_alloc_new _ _) (pcsV ps) (pcsV_len ps) (pcs_src (HP.out.next (HB1.out.alloc HB1.out.size _))) (pcsV_one ps) (by unfold maxLen; omega) (by omega) ?_; intro A2 c2 w2 hcp hb2; have HCP := Lib.hid (PcsB.of hcp); have HB2 := Lib.hid hb2; clear hcp hb2)
    obtain ⟨g, hg⟩ : ∃ g, g = w1.heap.size := ⟨_, rfl⟩
    have HG := Lib.hid hg
    have HW2 : Hid (Below w.heap.size w w2) := by
      show Below _ _ _
      exact (HB1.out.alloc HB1.out.size _).trans (HB2.out.mono HB1.out.size)
    have hg2 : g ≤ w2.heap.size := by have := HB2.out.size; simp at this; omega
    have HM2 : Hid (w2.heap[w.heap.size]? = some (.cells #[.int .i64 wd, .int .i64 ind, .int .i64 ln] 24 (0, 0))) := by
      show _ = _
      rw [HB2.out.block _ hlt1, Below.heap_alloc _ _ _ hlt1]
      exact HMB.out
    rw [← hg] at HCP hlt1 ⊢
    clear hg f0 f1 f2
    go_loopw [8] (fun q wr => ∃ (k : Nat) (qs : List Pc), k ≤ ps.length ∧ q = .int .i64 (k : Int) ∧ qs.length = ps.length ∧ PcsB wr g 34 A2 qs ∧ Below g w2 wr) (fun q _ => ps.length - (intOf q).toNat)
    case atStart => exact ⟨0, ps, Nat.zero_le _, rfl, rfl, HCP.out, Below.refl _ _⟩
    case round =>
      obtain ⟨k, qs, hk, rfl, hql, hqb, hbw⟩ := hrel
      have HQL := Lib.hid hql
      have HQB := Lib.hid hqb
      have HBW := Lib.hid hbw
      clear hql hqb hbw
      by_cases hlt : k < ps.length
      · obtain ⟨b, cur, rfl, hgb, hb, hc⟩ := HQB.out (by have := HQL.out; omega)
        have l2 := blk_cell hb (k * 3 + 2) _ (hc k (by have := HQL.out; omega)).2.2
        have z2 := blk_free hb (k * 3 + 2)
        obtain ⟨x, hx⟩ : ∃ x, pnAt qs k = x := ⟨_, rfl⟩
        rw [hx] at l2
        have HBC := Lib.hid (And.intro hb hc)
        clear hb hc hx
        go_wp2
        go_roundw
        case rel => exact ⟨k + 1, setPn qs k _, by omega, by go_num, by rw [setPn_len]; exact HQL.out, fun _ => ⟨b, _, rfl, hgb, blk_set HBC.out.1 (k * 3 + 2) _, HBC.out.2.set (by have := HQL.out; omega) _⟩, HBW.out.setCell (p := ⟨b, k * 3 + 2, none⟩) hgb _⟩
        case measure => simp [intOf]; omega
      · obtain rfl : k = ps.length := by omega
        have HWR : Hid (Below w.heap.size w wr) := by
          show Below _ _ _
          exact HW2.out.trans (HBW.out.mono (by rw [HG.out]; exact HB1.out.size))
        have m := (HBW.out.block _ hlt1).trans HM2.out
        have f0 := blk_cell m 0 _ rfl
        have f1 := blk_cell m 1 _ rfl
        have f2 := blk_cell m 2 _ rfl
        clear m
        go_wp2_with fail
        refine (fits_at _ _ ps _ _ _ _ HV.out HM.out (HP.out.next HWR.out)).mono ?_
        rintro e w3 ⟨rfl, hb3⟩
        go_wp2
        go_ret
        exact ⟨rfl, below_next HWR.out hb3⟩
  · go_enter Try.func8, Try.ntmps8
    go_wp2_with fail
    refine (bawake_any _).mono ?_
    rintro e w1 ⟨rfl, hb1⟩
    go_wp2
    go_ret
    exact ⟨rfl, below_next HB.out hb1⟩
set_option maxRecDepth 100000 in
set_option maxHeartbeats 1000000 in
theorem breakerPen_yes (A : Option Addr) (c : Nat) (ps : List Pc) (wd ind ln d : Int) (w : World) (hm : ps.length ≤ lenMax) (hP : Pcs w w.heap.size A ps) (hd1 : -32768 ≤ d) (hd2 : d ≤ 32767) (hv : parB ps wd ind = true) :
    Calls Try.prog 8 #[.slice A ps.length c, .agg #[.int .i64 wd, .int .i64 ind, .int .i64 ln], .int .i16 d] w fun e w' => e = .returned (.bool true) ∧ Below w.heap.size w w' := by
  have hm' : ps.length ≤ 9223372036854775807 := hm
  have HM := Lib.hid hm
  have HP := Lib.hid hP
  have HV := Lib.hid hv
  have hok := (validB_iff.1 (parB_iff.1 hv).1).2
  have HOK := Lib.hid hok
  clear hm hP hv hok
  have HB : Hid (Below w.heap.size w (w.alloc (.cells #[.int .i64 wd, .int .i64 ind, .int .i64 ln] 24))) := (Below.refl _ _).alloc (Nat.le_refl _) _
  obtain ⟨i0, hi0, hz0, hz1, hz2⟩ := info_parts info34
  by_cases h20 : ps.length ≤ 20
  · have hdec : decide ((20 : Int) < (ps.length : Int)) = false := decide_eq_false (by omega)
    go_enter Try.func8, Try.ntmps8
    go_wp2_with fail
    refine (bawake_any _).mono ?_
    rintro e w1 ⟨rfl, hb1⟩
    have f0 := kept_box hb1 0 _ rfl
    have f1 := kept_box hb1 1 _ rfl
    have f2 := kept_box hb1 2 _ rfl
    have hlt1 : w.heap.size < w1.heap.size := by have := hb1.size; simp at this; omega
    have HB1 : Hid (Below w.heap.size w w1) := below_next HB.out hb1
    have HMB := Lib.hid ((hb1.block w.heap.size (by simp)).trans (blk_new w (.cells #[.int .i64 wd, .int .i64 ind, .int .i64 ln] 24)))
    clear hb1
    go_wp2_with (at_builtin; refine wpList_append_copy rfl _ _ 22 34 rfl i0 _ 3 24 Try.underlying22 hi0 hz0 hz1 hz2 rfl (by decide) rfl rfl (heap_alloc_new _ _) (pcsV ps) (pcsV_len ps) (pcs_src (HP.out.next (HB1.out.alloc HB1.out.size _))) (pcsV_one ps) (by unfold maxLen; omega) (by omega) ?_; intro A2 c2 w2 hcp hb2; have HCP := Lib.hid (PcsB.of hcp); have HB2 := Lib.hid hb2; clear hcp hb2)
    obtain ⟨g, hg⟩ : ∃ g, g = w1.heap.size := ⟨_, rfl⟩
    have HG := Lib.hid hg
    have HW2 : Hid (Below w.heap.size w w2) := by
      show Below _ _ _
      exact (HB1.out.alloc HB1.out.size _).trans (HB2.out.mono HB1.out.size)
    have hg2 : g ≤ w2.heap.size := by have := HB2.out.size; simp at this; omega
    have HM2 : Hid (w2.heap[w.heap.size]? = some (.cells #[.int .i64 wd, .int .i64 ind, .int .i64 ln] 24 (0, 0))) := by
      show _ = _
      rw [HB2.out.block _ hlt1, Below.heap_alloc _ _ _ hlt1]
      exact HMB.out
    rw [← hg] at HCP hlt1 ⊢
    clear hg f0 f1 f2
    have HCP0 : Hid (PcsB w2 g 34 A2 (addPn ps d 0)) := by
      show PcsB _ _ _ _ _
      rw [addPn_zero]
      exact HCP.out
    go_loopw [8] (fun q wr => ∃ k : Nat, k ≤ ps.length ∧ q = .int .i64 (k : Int) ∧ PcsB wr g 34 A2 (addPn ps d k) ∧ Below g w2 wr) (fun q _ => ps.length - (intOf q).toNat)
    case atStart => exact ⟨0, Nat.zero_le _, rfl, HCP0.out, Below.refl _ _⟩
    case round =>
      obtain ⟨k, hk, rfl, hqb, hbw⟩ := hrel
      have HQB := Lib.hid hqb
      have HBW := Lib.hid hbw
      clear hqb hbw
      by_cases hlt : k < ps.length
      · obtain ⟨b, cur, rfl, hgb, hb, hc⟩ := HQB.out (by rw [addPn_len]; omega)
        have l2 := blk_cell hb (k * 3 + 2) _ (hc k (by rw [addPn_len]; omega)).2.2
        have z2 := blk_free hb (k * 3 + 2)
        rw [addPn_pn _ _ hlt] at l2
        have hpn := allOk_at HOK.out hlt
        have hp1 := hpn.2.2.2.2.1
        have hp2 := hpn.2.2.2.2.2
        have HNX := Lib.hid (addPn_next ps d hlt)
        obtain ⟨x, hx⟩ : ∃ x, pnAt ps k = x := ⟨_, rfl⟩
        rw [hx] at l2 hp1 hp2 HNX
        have HBC := Lib.hid (And.intro hb hc)
        clear hb hc hx hpn
        go_wp2
        go_roundw
        case rel =>
          refine ⟨k + 1, by omega, by go_num, ?_, HBW.out.setCell (p := ⟨b, k * 3 + 2, none⟩) hgb _⟩
          rw [← HNX.out]
          exact fun _ => ⟨b, _, rfl, hgb, blk_set HBC.out.1 (k * 3 + 2) _, HBC.out.2.set (by rw [addPn_len]; omega) _⟩
        case measure => simp [intOf]; omega
      · obtain rfl : k = ps.length := by omega
        have HWR : Hid (Below w.heap.size w wr) := by
          show Below _ _ _
          exact HW2.out.trans (HBW.out.mono (by rw [HG.out]; exact HB1.out.size))
        have m := (HBW.out.block _ hlt1).trans HM2.out
        have f0 := blk_cell m 0 _ rfl
        have f1 := blk_cell m 1 _ rfl
        have f2 := blk_cell m 2 _ rfl
        have HMM := Lib.hid m
        have hmlt := (Array.getElem?_eq_some_iff.1 m).1
        clear m
        have HPQ : Hid (Pcs wr wr.heap.size A2 (addAll ps d)) := HQB.out.pcs
        have hlq : (addAll ps d).length = ps.length := addAll_len ps d
        have HLQ := Lib.hid hlq
        clear hlq
        go_wp2_with fail
        refine (fits_at _ _ ps _ _ _ _ HV.out HM.out (HP.out.next HWR.out)).mono ?_
        rintro e w3 ⟨rfl, hb3⟩
        have n0 := (hb3.cell (p := ⟨w.heap.size, 0, none⟩) hmlt).trans f0
        have n1 := (hb3.cell (p := ⟨w.heap.size, 1, none⟩) hmlt).trans f1
        have n2 := (hb3.cell (p := ⟨w.heap.size, 2, none⟩) hmlt).trans f2
        have HB3 : Hid (Below wr.heap.size wr w3) := hb3
        clear hb3 f0 f1 f2
        have hm3 : w.heap.size < w3.heap.size := by have := HB3.out.size; omega
        go_wp2_with fail
        cases hq : parB (addAll ps d) wd ind
        · have HQ := Lib.hid hq
          clear hq
          refine (fits_len _ _ (addAll ps d) _ _ _ _ HLQ.out HQ.out HM.out (HPQ.out.next HB3.out)).mono ?_
          rintro e w4 ⟨rfl, hb4⟩
          go_wp2
          go_ret
          exact ⟨rfl, below_next (below_next HWR.out HB3.out) hb4⟩
        · have HQ := Lib.hid hq
          clear hq
          refine (fits_len _ _ (addAll ps d) _ _ _ _ HLQ.out HQ.out HM.out (HPQ.out.next HB3.out)).mono ?_
          rintro e w4 ⟨rfl, hb4⟩
          have f0 := (hb4.cell (p := ⟨w.heap.size, 0, none⟩) hm3).trans n0
          have f1 := (hb4.cell (p := ⟨w.heap.size, 1, none⟩) hm3).trans n1
          have f2 := (hb4.cell (p := ⟨w.heap.size, 2, none⟩) hm3).trans n2
          have HB4 : Hid (Below wr.heap.size wr w4) := below_next HB3.out hb4
          have hm4 : w.heap.size < w4.heap.size := by have := hb4.size; omega
          clear hb4 n0 n1 n2
          have hl1 := lines_law HV.out HQ.out ln
          obtain ⟨P, hP⟩ : ∃ P, linesP ps wd ind ln = P := ⟨_, rfl⟩
          obtain ⟨t, ht⟩ : ∃ t, linesN ps wd ind ln = t := ⟨_, rfl⟩
          obtain ⟨P2, hP2⟩ : ∃ P, linesP (addAll ps d) wd ind ln = P := ⟨_, rfl⟩
          obtain ⟨t2, ht2⟩ : ∃ t, linesN (addAll ps d) wd ind ln = t := ⟨_, rfl⟩
          have htb := linesN_bound HV.out ln
          rw [ht] at htb
          have hPl : P.length ≤ 64 := by
            rw [← hP]
            have := (linesP_len HV.out ln).1
            omega
          rw [hP, ht, hP2, ht2] at hl1
          rcases linesE_cases HV.out ln with hE | hE
          · have HE := Lib.hid hE
            have HE2 := Lib.hid (hl1.1.trans hE)
            obtain ⟨⟨k1, k2⟩, hPP, htt⟩ := hl1.2 hE
            subst hPP
            subst htt
            have hmb := mul_in hd1 hd2 (k := ln - 1) (by omega) (by omega)
            have e1 : IntKind.i64.wrap (d * (ln - 1)) = d * (ln - 1) := IntWalk.i64_in _ (by omega)
            have HPT := Lib.hid (And.intro (And.intro hP ht) (And.intro hP2 ht2))
            clear hE hl1 hP ht hP2 ht2
            go_wp2_with fail
            refine (Lines_is _ _ ps _ _ _ _ HPT.out.1.1 HPT.out.1.2 HE.out HM.out (HP.out.next (below_next HWR.out HB4.out))).mono ?_
            rintro e w5 ⟨⟨A5, c5, rfl, hI5⟩, hb5⟩
            have n0 := (hb5.cell (p := ⟨w.heap.size, 0, none⟩) hm4).trans f0
            have n1 := (hb5.cell (p := ⟨w.heap.size, 1, none⟩) hm4).trans f1
            have n2 := (hb5.cell (p := ⟨w.heap.size, 2, none⟩) hm4).trans f2
            have HB5 : Hid (Below wr.heap.size wr w5) := below_next HB4.out hb5
            have HI5 := Lib.hid hI5
            have hm5 : w.heap.size < w5.heap.size := by have := hb5.size; omega
            clear hb5 hI5
            go_wp2_with fail
            refine (Lines_len _ _ (addAll ps d) _ _ _ _ HLQ.out HPT.out.2.1 HPT.out.2.2 HE2.out HM.out (HPQ.out.next HB5.out)).mono ?_
            rintro e w6 ⟨⟨A6, c6, rfl, hI6⟩, hb6⟩
            have f0 := (hb6.cell (p := ⟨w.heap.size, 0, none⟩) hm5).trans n0
            have f2 := (hb6.cell (p := ⟨w.heap.size, 2, none⟩) hm5).trans n2
            have HB6 : Hid (Below w.heap.size w w6) := below_next (below_next HWR.out HB5.out) hb6
            have HI5' : Hid (Ints w6 w6.heap.size A5 (P2.map Int.ofNat)) := HI5.out.next hb6
            have HI6 := Lib.hid hI6
            have hm6 : w.heap.size < w6.heap.size := by have := hb6.size; omega
            clear hb6 hI6
            go_wp2_with fail
            refine (same_eq A5 A6 c5 c6 _ _ hPl HI5'.out HI6.out).mono ?_
            rintro e w7 ⟨rfl, hb7⟩
            have f2' := (hb7.cell (p := ⟨w.heap.size, 2, none⟩) hm6).trans f2
            go_wp2
            go_ret
            exact ⟨rfl, below_next HB6.out hb7⟩
          · have HE := Lib.hid hE
            have HE2 := Lib.hid (hl1.1.trans hE)
            have HPT := Lib.hid (And.intro (And.intro hP ht) (And.intro hP2 ht2))
            clear hE hl1 hP ht hP2 ht2
            go_wp2_with fail
            refine (Lines_is _ _ ps _ _ _ _ HPT.out.1.1 HPT.out.1.2 HE.out HM.out (HP.out.next (below_next HWR.out HB4.out))).mono ?_
            rintro e w5 ⟨⟨A5, c5, rfl, _⟩, hb5⟩
            have n0 := (hb5.cell (p := ⟨w.heap.size, 0, none⟩) hm4).trans f0
            have n1 := (hb5.cell (p := ⟨w.heap.size, 1, none⟩) hm4).trans f1
            have n2 := (hb5.cell (p := ⟨w.heap.size, 2, none⟩) hm4).trans f2
            have HB5 : Hid (Below wr.heap.size wr w5) := below_next HB4.out hb5
            clear hb5
            go_wp2_with fail
            refine (Lines_len _ _ (addAll ps d) _ _ _ _ HLQ.out HPT.out.2.1 HPT.out.2.2 HE2.out HM.out (HPQ.out.next HB5.out)).mono ?_
            rintro e w6 ⟨⟨A6, c6, rfl, _⟩, hb6⟩
            have HB6 : Hid (Below w.heap.size w w6) := below_next (below_next HWR.out HB5.out) hb6
            clear hb6
            go_wp2
            go_ret
            exact ⟨rfl, HB6.out⟩
  · go_enter Try.func8, Try.ntmps8
    go_wp2_with fail
    refine (bawake_any _).mono ?_
    rintro e w1 ⟨rfl, hb1⟩
    go_wp2
    go_ret
    exact ⟨rfl, below_next HB.out hb1⟩
theorem breakerPen_walk (A : Option Addr) (c : Nat) (ps : List Pc) (wd ind ln d : Int) (w : World) (hm : ps.length ≤ lenMax) (hP : Pcs w w.heap.size A ps) (hd1 : -32768 ≤ d) (hd2 : d ≤ 32767) :
    Calls Try.prog 8 #[.slice A ps.length c, .agg #[.int .i64 wd, .int .i64 ind, .int .i64 ln], .int .i16 d] w fun e w' => e = .returned (.bool true) ∧ Below w.heap.size w w' := by
  cases hv : parB ps wd ind
  · exact breakerPen_no A c ps wd ind ln d w hm hP hd1 hd2 hv
  · exact breakerPen_yes A c ps wd ind ln d w hm hP hd1 hd2 hv
end Go.Proofs.Ytogkjaohphnflaa
