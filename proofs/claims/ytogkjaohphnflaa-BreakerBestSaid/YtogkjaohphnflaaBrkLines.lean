/- breaker.Lines. -/
import Derived.Test.YtogkjaohphnflaaBrkCount
namespace Go.Proofs.Ytogkjaohphnflaa
open Go.RowKit
/-- What Lines answers. -/
def linesE (ps : List Pc) (wd ind k : Int) : Int :=
  if parB ps wd ind = true then (if 1 ≤ k ∧ k ≤ (ps.length : Int) then (if (kT ps wd ind k.toNat 0).th = true then 0 else 8) else 8) else 1
def linesP (ps : List Pc) (wd ind k : Int) : List Nat := if linesE ps wd ind k = 0 then kP ps wd ind k.toNat 0 else []
def linesN (ps : List Pc) (wd ind k : Int) : Int := if linesE ps wd ind k = 0 then (kT ps wd ind k.toNat 0).dm else 0
def LinesTo (P : List Nat) (t E : Int) (w : World) (e : Ending) (w' : World) : Prop :=
  (∃ A' c', e = .returned (.tuple #[.slice A' P.length c', .int .i64 t, .int .i64 E]) ∧ Ints w' w'.heap.size A' (P.map Int.ofNat)) ∧ Below w.heap.size w w'
theorem ints_nil (w : World) (B : Nat) (A : Option Addr) : Ints w B A [] := fun h => absurd h (by simp)
set_option maxRecDepth 100000 in
set_option maxHeartbeats 1000000 in
theorem Lines_no (A : Option Addr) (c : Nat) (ps : List Pc) (wd ind k : Int) (w : World) (hp : parB ps wd ind = false) (hm : ps.length ≤ lenMax) (hP : Pcs w w.heap.size A ps) :
    Calls Try.prog 19 #[.slice A ps.length c, .int .i64 wd, .int .i64 ind, .int .i64 k] w (LinesTo [] 0 1 w) := by
  have HM := Lib.hid hm
  have HP := Lib.hid hP
  have HQ := Lib.hid hp
  clear hm hP hp
  have HB : Hid (Below w.heap.size w (w.alloc (.cells #[.slice A ps.length c, .int .i64 wd, .int .i64 ind] 46))) := (Below.refl _ _).alloc (Nat.le_refl _) _
  go_enter Try.func19, Try.ntmps19
  go_wp2_with fail
  refine (pvalid_at _ _ ps _ _ _ HQ.out HM.out (HP.out.next HB.out)).mono ?_
  rintro e w1 ⟨rfl, hb1⟩
  go_wp2
  go_ret3
  exact ⟨⟨none, 0, rfl, ints_nil _ _ _⟩, below_next HB.out hb1⟩
set_option maxRecDepth 100000 in
set_option maxHeartbeats 1000000 in
theorem Lines_out (A : Option Addr) (c : Nat) (ps : List Pc) (wd ind k : Int) (w : World) (hv : validB ps = true) (hf : fitsB wd ind = true) (hk : k < 1 ∨ (ps.length : Int) < k) (hP : Pcs w w.heap.size A ps) :
    Calls Try.prog 19 #[.slice A ps.length c, .int .i64 wd, .int .i64 ind, .int .i64 k] w (LinesTo [] 0 8 w) := by
  have h64 := (validB_iff.1 hv).1.2
  have HM : Hid (ps.length ≤ lenMax) := by show _ ≤ _; unfold lenMax; omega
  have HP := Lib.hid hP
  have HQ : Hid (parB ps wd ind = true) := parB_iff.2 ⟨hv, hf⟩
  clear hv hf hP
  have HB : Hid (Below w.heap.size w (w.alloc (.cells #[.slice A ps.length c, .int .i64 wd, .int .i64 ind] 46))) := (Below.refl _ _).alloc (Nat.le_refl _) _
  by_cases h1 : k < 1
  · clear hk
    go_enter Try.func19, Try.ntmps19
    go_wp2_with fail
    refine (pvalid_at _ _ ps _ _ _ HQ.out HM.out (HP.out.next HB.out)).mono ?_
    rintro e w1 ⟨rfl, hb1⟩
    go_wp2
    go_ret3
    exact ⟨⟨none, 0, rfl, ints_nil _ _ _⟩, below_next HB.out hb1⟩
  · have h2 : (ps.length : Int) < k := by omega
    clear hk
    go_enter Try.func19, Try.ntmps19
    go_wp2_with fail
    refine (pvalid_at _ _ ps _ _ _ HQ.out HM.out (HP.out.next HB.out)).mono ?_
    rintro e w1 ⟨rfl, hb1⟩
    go_wp2
    go_ret3
    exact ⟨⟨none, 0, rfl, ints_nil _ _ _⟩, below_next HB.out hb1⟩
theorem kP_cons (ps : List Pc) (wd ind : Int) (m i : Nat) : kP ps wd ind (m + 1) i = i :: kP ps wd ind m (kT ps wd ind (m + 1) i).en := rfl
set_option maxRecDepth 100000 in
set_option maxHeartbeats 1000000 in
theorem Lines_in (A : Option Addr) (c : Nat) (ps : List Pc) (wd ind : Int) (k : Nat) (w : World) (hv : validB ps = true) (hf : fitsB wd ind = true) (hk1 : 1 ≤ k) (hk2 : k ≤ ps.length) (hP : Pcs w w.heap.size A ps) :
    Calls Try.prog 19 #[.slice A ps.length c, .int .i64 wd, .int .i64 ind, .int .i64 (k : Int)] w
      (LinesTo (if (kT ps wd ind k 0).th = true then kP ps wd ind k 0 else []) (if (kT ps wd ind k 0).th = true then (kT ps wd ind k 0).dm else 0) (if (kT ps wd ind k 0).th = true then 0 else 8) w) := by
  have h64 := (validB_iff.1 hv).1.2
  have h1 := (validB_iff.1 hv).1.1
  have HM : Hid (ps.length ≤ lenMax) := by show _ ≤ _; unfold lenMax; omega
  have HP := Lib.hid hP
  have HV := Lib.hid hv
  have HF := Lib.hid hf
  have HQ : Hid (parB ps wd ind = true) := parB_iff.2 ⟨hv, hf⟩
  clear hv hf hP
  have HB : Hid (Below w.heap.size w (w.alloc (.cells #[.slice A ps.length c, .int .i64 wd, .int .i64 ind] 46))) := (Below.refl _ _).alloc (Nat.le_refl _) _
  cases hth : (kT ps wd ind k 0).th
  · have HTH := Lib.hid hth
    clear hth
    simp only [Bool.false_eq_true, if_false]
    go_enter Try.func19, Try.ntmps19
    go_wp2_with fail
    refine (pvalid_at _ _ ps _ _ _ HQ.out HM.out (HP.out.next HB.out)).mono ?_
    rintro e w1 ⟨rfl, hb1⟩
    have HB1 : Hid (Below w.heap.size w w1) := below_next HB.out hb1
    have f0 := kept_box hb1 0 _ rfl
    have f1 := kept_box hb1 1 _ rfl
    have f2 := kept_box hb1 2 _ rfl
    clear hb1
    go_wp2_with fail
    refine (counted_any A c ps wd ind k _ (by omega) HV.out HF.out (HP.out.next HB1.out)).mono ?_
    rintro e w2 ⟨⟨bA, AA, rfl, hbA, hR⟩, hb2⟩
    obtain ⟨bk, ck, _, hk3, hk4, hk5⟩ := hR k (by omega)
    have r0 := blk_cell hbA k _ hk4
    have r1 := blk_cell hk3 0 _ (hk5 0 (by omega)).1
    rw [HTH.out] at r1
    have HB2 : Hid (Below w.heap.size w w2) := below_next HB1.out hb2
    clear hb2 hR hk3 hk4 hk5 hbA
    go_wp2
    go_ret3
    exact ⟨⟨none, 0, rfl, ints_nil _ _ _⟩, HB2.out⟩
  · have HTH := Lib.hid hth
    clear hth
    simp only [if_true]
    go_enter Try.func19, Try.ntmps19
    go_wp2_with fail
    refine (pvalid_at _ _ ps _ _ _ HQ.out HM.out (HP.out.next HB.out)).mono ?_
    rintro e w1 ⟨rfl, hb1⟩
    have HB1 : Hid (Below w.heap.size w w1) := below_next HB.out hb1
    have f0 := kept_box hb1 0 _ rfl
    have f1 := kept_box hb1 1 _ rfl
    have f2 := kept_box hb1 2 _ rfl
    clear hb1
    go_wp2_with fail
    refine (counted_any A c ps wd ind k _ (by omega) HV.out HF.out (HP.out.next HB1.out)).mono ?_
    rintro e wo ⟨⟨bA, AA, rfl, hbA, hR⟩, hb2⟩
    obtain ⟨bk, ck, hk6, hk3, hk4, hk5⟩ := hR k (by omega)
    have r0 := blk_cell hbA k _ hk4
    have r1 := blk_cell hk3 0 _ (hk5 0 (by omega)).1
    rw [HTH.out] at r1
    have HB2 : Hid (Below w.heap.size w wo) := below_next HB1.out hb2
    have hAl := (Array.getElem?_eq_some_iff.1 hbA).1
    have hkl := (Array.getElem?_eq_some_iff.1 hk3).1
    have HAA := Lib.hid (And.intro hbA hR)
    have HKK := Lib.hid (And.intro hk3 (And.intro hk4 hk5))
    clear hb2 hR hk3 hk4 hk5 hbA f0 f1 f2
    obtain ⟨i0, hi0, hz0, hz1, hz2⟩ := info_parts infoI
    go_wp2_with fail
    clear r0 r1
    go_loopw [8, 13, 14] (fun v q t wr => ∃ (pre : List Nat) (i m : Nat) (A' : Option Addr) (c' : Nat), i ≤ ps.length ∧ m ≤ k ∧ q = .int .i64 (i : Int) ∧ t = .int .i64 (m : Int) ∧ v = .slice A' pre.length c' ∧ pre.length + m = k ∧ (kT ps wd ind m i).th = true ∧ pre ++ kP ps wd ind m i = kP ps wd ind k 0 ∧
      Owns wr wo.heap.size 3 A' c' (pre.map Int.ofNat) ∧ Below wo.heap.size wo wr) (fun _ _ t _ => (intOf t).toNat)
    case atStart => exact ⟨[], 0, k, none, 0, Nat.zero_le _, Nat.le_refl _, rfl, rfl, rfl, by simp, HTH.out, rfl, Owns.nil _ _ _, Below.refl _ _⟩
    case round =>
      obtain ⟨pre, i, m, A', c', hi, hm, rfl, rfl, rfl, hlen, hth, hpre, hown, hnx⟩ := hrel
      have HO := Lib.hid hown
      have HPR := Lib.hid hpre
      have HNX := Lib.hid hnx
      have HL := Lib.hid hlen
      have HT := Lib.hid hth
      have hpl : pre.length ≤ 64 := by omega
      clear hown hpre hnx hlen hth
      by_cases hlt : 0 < m
      · obtain ⟨m', rfl⟩ : ∃ m', m = m' + 1 := ⟨m - 1, by omega⟩
        obtain ⟨e1, e2, e3, e4⟩ := counted_en HT.out
        obtain ⟨bm, cm, g1, g2, g3, g4⟩ := HAA.out.2 (m' + 1) (by omega)
        have hml := (Array.getElem?_eq_some_iff.1 g2).1
        have HE4 := Lib.hid e4
        clear e4
        obtain ⟨en, hen⟩ : ∃ en, (kT ps wd ind (m' + 1) i).en = en := ⟨_, rfl⟩
        have hcs := kP_cons ps wd ind m' i
        have hcell := (g4 i (by omega)).2.2
        rw [hen] at hcs hcell
        have HEN := Lib.hid hen
        have HCS := Lib.hid hcs
        have e3' : en ≤ ps.length := by rw [← hen]; exact e3
        have HG := Lib.hid (And.intro g2 (And.intro g3 hcell))
        clear hen hcs hcell g2 g3 g4 e2 e3
        have b1 : (0 : Int) ≤ (m' : Int) + 1 := by omega
        have b2 : (m' : Int) + 1 < (k : Int) + 1 := by omega
        have b3 : m' + 1 < k + 1 := by omega
        have b4 : i < ps.length + 1 := by omega
        rw [show ((m' + 1 : Nat) : Int) = (m' : Int) + 1 by omega]
        go_wp2_with (at_builtin; refine wpList_append_one rfl _ _ 27 3 rfl i0 Try.underlying27 hi0 hz0 hz1 hz2 (l := pre.map Int.ofNat) (by simp) rfl (HO.out.alloc _) rfl (heap_alloc_new _ _) (by simp; omega) (by have := HNX.out.size; simp; omega) ?_; intro A2 c2 w5 hown2 hb5; have HB5 : Hid (Below wo.heap.size wo w5) := (HNX.out.alloc HNX.out.size _).trans hb5; have l1 := blk_cell ((HB5.out.block bA hAl).trans HAA.out.1) (m' + 1) _ HG.out.2.1; have l2 := blk_cell ((HB5.out.block bm hml).trans HG.out.1) (i * 3 + 2) _ HG.out.2.2; have HO5 := Lib.hid hown2; clear hown2 hb5)
        go_roundw
        case rel =>
          refine ⟨pre ++ [i], en, m', A2, c2, e3', by omega, rfl, by go_num, by rw [List.length_append]; rfl, by have := HL.out; simp; omega, ?_, ?_, ?_, HB5.out⟩
          · have := HE4.out
            change (kT ps wd ind m' (kT ps wd ind (m' + 1) i).en).th = true at this
            rw [HEN.out] at this
            exact this
          · rw [List.append_assoc]
            show pre ++ (i :: kP ps wd ind m' en) = _
            rw [← HCS.out]
            exact HPR.out
          · rw [List.map_append]
            exact HO5.out
        case measure => simp [intOf]
      · obtain rfl : m = 0 := by omega
        have hfull : pre = kP ps wd ind k 0 := by
          have := HPR.out
          rw [show kP ps wd ind 0 i = [] from rfl, List.append_nil] at this
          exact this
        have l1 := blk_cell ((HNX.out.block bA hAl).trans HAA.out.1) k _ HKK.out.2.1
        have l2 := blk_cell ((HNX.out.block bk hkl).trans HKK.out.1) 1 _ (HKK.out.2.2 0 (by omega)).2.1
        have HFU := Lib.hid hfull
        clear hfull
        go_wp2_with fail
        go_quiet (fail)
        go_wp2
        go_ret3
        have hd : Below wr.heap.size wr (wr.drewN nq) := below_drewN (Below.refl _ _) nq
        refine ⟨⟨A', c', ?_, ?_⟩, below_next HB2.out (HNX.out.trans (hd.mono HNX.out.size))⟩
        · rw [← HFU.out]
          rfl
        · rw [← HFU.out]
          exact (HO.out.below hd).ints
theorem Lines_any (A : Option Addr) (c : Nat) (ps : List Pc) (wd ind k : Int) (w : World) (hm : ps.length ≤ lenMax) (hP : Pcs w w.heap.size A ps) :
    Calls Try.prog 19 #[.slice A ps.length c, .int .i64 wd, .int .i64 ind, .int .i64 k] w (LinesTo (linesP ps wd ind k) (linesN ps wd ind k) (linesE ps wd ind k) w) := by
  cases hp : parB ps wd ind with
  | false =>
    have e : linesE ps wd ind k = 1 := by unfold linesE; rw [if_neg (by rw [hp]; simp)]
    have := Lines_no A c ps wd ind k w hp hm hP
    unfold linesP linesN
    rw [e]
    exact this
  | true =>
    obtain ⟨hv, hf⟩ := parB_iff.1 hp
    by_cases hk : 1 ≤ k ∧ k ≤ (ps.length : Int)
    · obtain ⟨n, rfl⟩ : ∃ n : Nat, k = (n : Int) := ⟨k.toNat, by omega⟩
      have := Lines_in A c ps wd ind n w hv hf (by omega) (by omega) hP
      have e : linesE ps wd ind (n : Int) = if (kT ps wd ind n 0).th = true then 0 else 8 := by unfold linesE; rw [if_pos hp, if_pos hk, Int.toNat_natCast]
      unfold linesP linesN
      rw [e, Int.toNat_natCast]
      cases hth : (kT ps wd ind n 0).th with
      | true => rw [hth] at this; exact this
      | false => rw [hth] at this; exact this
    · have e : linesE ps wd ind k = 8 := by unfold linesE; rw [if_pos hp, if_neg hk]
      have := Lines_out A c ps wd ind k w hv hf (by omega) hP
      unfold linesP linesN
      rw [e]
      exact this
end Go.Proofs.Ytogkjaohphnflaa
