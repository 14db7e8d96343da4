/- The reference's All. -/
import Derived.Test.YtogkjaohphnflaaRefTry
namespace Go.Proofs.Ytogkjaohphnflaa
open Go.RowKit
theorem and_one (x : Int) (h0 : 0 ≤ x) (h1 : x < 4611686018427387904) : bits .and .i64 x 1 = x % 2 :=
  bits_mask .i64 62 (by decide) (fun n a b => IntWalk.i64_in n (by omega)) 1 (by decide) x h0 (by omega)
theorem bit_walk (m k : Nat) (hm : m ≤ 1000000) : bits .and .i64 ((m : Int) / 2 ^ k) 1 = if bitN m k = true then 1 else 0 := by
  have e : ((m : Int) / 2 ^ k) = ((m / 2 ^ k : Nat) : Int) := by simp
  have hle : m / 2 ^ k ≤ m := Nat.div_le_self _ _
  unfold bitN
  rw [e]
  obtain ⟨q, hq⟩ : ∃ q, m / 2 ^ k = q := ⟨_, rfl⟩
  rw [hq] at hle ⊢
  rw [and_one _ (by omega) (by omega)]
  by_cases h : q % 2 = 1
  · rw [if_pos (decide_eq_true h)]; omega
  · rw [if_neg (by simp [h])]; omega
theorem infoRs : (Try.prog.info? 58).map (fun i => (i.zero, i.size, i.bytes)) = some (some (.agg #[.slice none 0 0, .int .i64 0, .bool false]), 3, 40) := by kernel_rfl
def zeroRs : Array Value := #[.slice none 0 0, .int .i64 0, .bool false]
theorem make_rs (n : Nat) (hn : n ≤ 64) (W : World) : (Instr.makeSlice 54 (.int .i64 ((n : Int) + 1)) (.int .i64 ((n : Int) + 1))).run Try.prog W =
    .ok (.slice (some ⟨W.heap.size, 0, none⟩) (n + 1) (n + 1)) (W.alloc (.cells (madeCells zeroRs ((n + 1) * 3)) 58)) := by
  obtain ⟨i, hi, hz, hs, hb⟩ := info_parts infoRs
  have h := run_make (P := Try.prog) W 54 58 i (.agg zeroRs) Try.underlying54 hi hz .i64 .i64 ((n : Int) + 1) ((n : Int) + 1) (by omega) (by omega) (by rw [hb]; omega) (by omega)
  rw [hs, show ((n : Int) + 1).toNat = n + 1 by omega] at h
  exact h
theorem rss_made (W : World) (n : Nat) : Rss (W.alloc (.cells (madeCells zeroRs ((n + 1) * 3)) 58)) W.heap.size n (fun _ => noRs) := by
  refine ⟨_, World.alloc_heap_new W _, fun k hk => ⟨none, 0, ?_, ?_, ?_, fun h => absurd h (by simp [noRs])⟩⟩
  · simp [madeCells, zeroRs, noRs, show k * 3 < (n + 1) * 3 by omega]
  · simp [madeCells, zeroRs, noRs, show k * 3 + 1 < (n + 1) * 3 by omega, show (k * 3 + 1) % 3 = 1 by omega]
  · simp [madeCells, zeroRs, noRs, show k * 3 + 2 < (n + 1) * 3 by omega, show (k * 3 + 2) % 3 = 2 by omega]
/-- The results after the first m subsets. -/
def allF (ps : List Pc) (wd ind : Int) : Nat → Nat → Rs
  | 0 => fun _ => noRs
  | m + 1 => if totE ps ((subS m (ps.length - 1)).map Int.ofNat) wd ind = 0 then tryM (allF ps wd ind m) (subS m (ps.length - 1)) (totN ps ((subS m (ps.length - 1)).map Int.ofNat) wd ind) 2 else allF ps wd ind m
theorem allF_len {ps : List Pc} {wd ind : Int} (h1 : 1 ≤ ps.length) (k : Nat) : ∀ m, (allF ps wd ind m k).st.length ≤ ps.length
  | 0 => Nat.zero_le _
  | m + 1 => by
    have ih := allF_len (wd := wd) (ind := ind) h1 k m
    have e : allF ps wd ind (m + 1) k = (if totE ps ((subS m (ps.length - 1)).map Int.ofNat) wd ind = 0 then tryM (allF ps wd ind m) (subS m (ps.length - 1)) (totN ps ((subS m (ps.length - 1)).map Int.ofNat) wd ind) 2 else allF ps wd ind m) k := rfl
    rw [e]
    split
    · exact tryM_len ih (by have := (subS_len m (ps.length - 1)).2; omega) 2
    · exact ih
theorem sub_in {ps : List Pc} (h1 : 1 ≤ ps.length) (m : Nat) : IsP ps.length anyG 0 (subS m (ps.length - 1)) := by
  have := subS_way m (ps.length - 1)
  rw [show ps.length - 1 + 1 = ps.length by omega] at this
  exact this
theorem try_sub (bR cR : Nat) (A A2 : Option Addr) (c c2 : Nat) (ps : List Pc) (m : Nat) (wd ind : Int) (w : World) (hp : parB ps wd ind = true) (hP : Pcs w bR A ps) (hI : IntsF w bR A2 ((subS m (ps.length - 1)).map Int.ofNat)) (hR : Rss w bR ps.length (allF ps wd ind m)) :
    Calls Try.prog 36 #[.slice (some ⟨bR, 0, none⟩) (ps.length + 1) cR, .slice A ps.length c, .slice A2 (subS m (ps.length - 1)).length c2, .int .i64 wd, .int .i64 ind] w (TryTo bR ps.length (allF ps wd ind (m + 1)) w) := by
  have h1 := (validB_iff.1 (parB_iff.1 hp).1).1.1
  have h64 := (validB_iff.1 (parB_iff.1 hp).1).1.2
  have hbR : bR < w.heap.size := by obtain ⟨cs, h, _⟩ := hR; exact (Array.getElem?_eq_some_iff.1 h).1
  have hl := subS_len m (ps.length - 1)
  rcases legal_iff hp (sub_in h1 m) with ⟨_, e, _⟩ | ⟨_, e, e2⟩
  · have : allF ps wd ind (m + 1) = tryM (allF ps wd ind m) (subS m (ps.length - 1)) (totN ps ((subS m (ps.length - 1)).map Int.ofNat) wd ind) 2 := by
      show (if _ then _ else _ : Nat → Rs) = _
      rw [if_pos e]
    rw [this]
    exact try_yes bR ps.length cR A A2 c c2 ps _ wd ind _ _ w h64 rfl hl.1 (by omega) hP hI hR (fun k _ => by have := allF_len (wd := wd) (ind := ind) h1 k m; omega) rfl e
  · have : allF ps wd ind (m + 1) = allF ps wd ind m := by
      show (if _ then _ else _ : Nat → Rs) = _
      rw [if_neg (by rw [e]; simp)]
    rw [this]
    exact try_no bR ps.length cR A A2 c c2 ps _ wd ind _ w (by unfold lenMax; omega) (by unfold lenMax; omega) (hP.mono (by omega)) hI.ints hR (by omega) e2 e
set_option maxRecDepth 100000 in
set_option maxHeartbeats 1000000 in
theorem All_yes (A : Option Addr) (c : Nat) (ps : List Pc) (wd ind : Int) (w : World) (hp : parB ps wd ind = true) (h10 : ps.length ≤ 10) (hP : Pcs w w.heap.size A ps) :
    Calls Try.prog 29 #[.slice A ps.length c, .int .i64 wd, .int .i64 ind] w fun e w' =>
      (∃ bR, w.heap.size ≤ bR ∧ e = .returned (.tuple #[.slice (some ⟨bR, 0, none⟩) (ps.length + 1) (ps.length + 1), .int .i64 0]) ∧ Rss w' bR ps.length (allF ps wd ind (2 ^ (ps.length - 1)))) ∧ Below w.heap.size w w' := by
  have h1 := (validB_iff.1 (parB_iff.1 hp).1).1.1
  have HV := Lib.hid (parB_iff.1 hp).1
  have HF := Lib.hid (parB_iff.1 hp).2
  have HPP := Lib.hid hp
  have HP := Lib.hid hP
  have HM : Hid (ps.length ≤ lenMax) := by show _ ≤ _; unfold lenMax; omega
  have hmk := make_rs ps.length (by omega)
  have e0 : IntKind.i64.wrap ((ps.length : Int) + 1) = (ps.length : Int) + 1 := IntWalk.i64_in _ (by omega)
  clear hp hP
  obtain ⟨i0, hi0, hz0, hz1, hz2⟩ := info_parts infoI
  go_enter Try.func29, Try.ntmps29
  go_wp2_with fail
  refine (rvalid_at _ _ ps _ HV.out HM.out HP.out).mono ?_
  rintro e w1 ⟨rfl, hb1⟩
  go_wp2_with fail
  refine (rfits_at _ _ _ HF.out).mono ?_
  rintro e w2 ⟨rfl, hb2⟩
  have HB2 := Lib.hid (below_next hb1 hb2)
  clear hb1 hb2
  go_wp2_with fail
  have mR := rss_made w2 ps.length
  have mB : Below w.heap.size w (w2.alloc (.cells (madeCells zeroRs ((ps.length + 1) * 3)) 58)) := HB2.out.alloc HB2.out.size _
  have ms : (w2.alloc (.cells (madeCells zeroRs ((ps.length + 1) * 3)) 58)).heap.size = w2.heap.size + 1 := by simp
  obtain ⟨bR, hbR⟩ : ∃ b, b = w2.heap.size := ⟨_, rfl⟩
  have hbR0 : w.heap.size ≤ bR := by rw [hbR]; exact HB2.out.size
  rw [← hbR] at mR ms ⊢
  generalize (w2.alloc (.cells (madeCells zeroRs ((ps.length + 1) * 3)) 58)) = W0 at mR mB ms ⊢
  have HMR := Lib.hid mR
  have HMB := Lib.hid mB
  clear mR mB hbR hmk e0
  obtain ⟨N, hN⟩ : ∃ N, 2 ^ (ps.length - 1) = N := ⟨_, rfl⟩
  have hpw : N ≤ 512 := by
    rw [← hN]
    exact Nat.pow_le_pow_right (show 0 < 2 by omega) (show ps.length - 1 ≤ 9 by omega)
  have eN : ((ps.length : Int) - 1).toNat = ps.length - 1 := by omega
  have eW : IntKind.i64.wrap ((2 : Int) ^ (ps.length - 1)) = (N : Int) := by
    rw [show ((2 : Int) ^ (ps.length - 1)) = (N : Int) by rw [← hN]; simp]
    exact IntWalk.i64_in _ (by omega)
  have HNN := Lib.hid hN
  clear hN
  go_loopw [9] (fun q wr => ∃ m : Nat, m ≤ N ∧ q = .int .i64 (m : Int) ∧ Rss wr bR ps.length (allF ps wd ind m) ∧ Below bR W0 wr) (fun q _ => N - (intOf q).toNat)
  case atStart => exact ⟨0, Nat.zero_le _, rfl, HMR.out, Below.refl _ _⟩
  case round =>
    obtain ⟨m, hm, rfl, hR, hbw⟩ := hrel
    have HR := Lib.hid hR
    have HBW := Lib.hid hbw
    have hws := hbw.size
    rw [ms] at hws
    clear hR hbw
    by_cases hlt : m < N
    · have hdec : decide ((m : Int) < (N : Int)) = true := decide_eq_true (by omega)
      go_wp2_with fail
      obtain ⟨wo, rfl⟩ : ∃ wo : World, wo = wr := ⟨_, rfl⟩
      have HO1 := Lib.hid (Owns.one wo 3 0)
      go_loopw [10, 11] (fun v q wr => ∃ (k : Nat) (A' : Option Addr) (c' : Nat), k + 1 ≤ ps.length ∧ q = .int .i64 ((k : Int) + 1) ∧ v = .slice A' (subS m k).length c' ∧ Owns wr wo.heap.size 3 A' c' ((subS m k).map Int.ofNat) ∧ Below wo.heap.size wo wr) (fun _ q _ => ps.length - (intOf q).toNat)
      case atStart => exact ⟨0, _, _, h1, rfl, rfl, HO1.out, (Below.refl _ _).alloc (Nat.le_refl _) _⟩
      case round =>
        obtain ⟨k, A', c', hk, rfl, rfl, hown, hnx⟩ := hrel
        have HO := Lib.hid hown
        have HNX := Lib.hid hnx
        have hsl := (subS_len m k).2
        clear hown hnx
        by_cases hkl : k + 1 < ps.length
        · have hbw := bit_walk m k (by omega)
          cases hbt : bitN m k
          · have hb0 : bits .and .i64 ((m : Int) / 2 ^ k) 1 = 0 := by rw [hbw, hbt]; rfl
            have HNO := Lib.hid (subS_no hbt)
            clear hbw hbt
            go_wp2
            go_roundw
            case rel => exact ⟨k + 1, A', c', by omega, by go_num, by rw [HNO.out], by rw [HNO.out]; exact HO.out, HNX.out⟩
            case measure => simp [intOf]; omega
          · have hb1 : bits .and .i64 ((m : Int) / 2 ^ k) 1 = 1 := by rw [hbw, hbt]; rfl
            have HYE := Lib.hid (subS_yes hbt)
            clear hbw hbt
            go_wp2_with (at_builtin; refine wpList_append_one (z := ((k : Int) + 1)) rfl _ _ 27 3 rfl i0 Try.underlying27 hi0 hz0 hz1 hz2 (l := (subS m k).map Int.ofNat) (by simp) rfl (HO.out.alloc _) rfl (heap_alloc_new _ _) (by simp; omega) (by have := HNX.out.size; simp; omega) ?_; intro A2 c2 w5 hown2 hb5; have HO5 := Lib.hid hown2; have HB5 := Lib.hid hb5; clear hown2 hb5)
            go_roundw
            case rel =>
              refine ⟨k + 1, A2, c2, by omega, by go_num, by rw [HYE.out, List.length_append]; rfl, ?_, (HNX.out.alloc HNX.out.size _).trans HB5.out⟩
              rw [HYE.out, List.map_append]
              exact HO5.out
            case measure => simp [intOf]; omega
        · obtain ⟨hk1, hk2⟩ : k = ps.length - 1 ∧ ps.length ≤ k + 1 := ⟨by omega, by omega⟩
          have HK1 := Lib.hid hk1
          clear hk1
          have hIF : IntsF wr bR A' ((subS m (ps.length - 1)).map Int.ofNat) := by
            rw [← HK1.out]
            intro h0
            obtain ⟨g, cap', hv, hg, hlt⟩ := HO.out.form h0
            have hA : A' = some ⟨g, 0, none⟩ := by injection hv
            subst hA
            obtain ⟨b, off, e, hb, hc⟩ := HO.out.ints h0
            injection e with e
            injection e with e1 e2
            subst e1
            exact ⟨g, off, by rw [← e2], by omega, hb, hc⟩
          have hRR : Rss wr bR ps.length (allF ps wd ind m) := HR.out.next HNX.out
          have hT := try_sub bR (ps.length + 1) A A' c c' ps m wd ind wr HPP.out (((HP.out.below (HMB.out)).below (HBW.out.mono hbR0 |>.mono (Nat.le_refl _))).below (HNX.out.mono (by omega)) |>.mono hbR0) hIF hRR
          rw [← HK1.out] at hT
          have HT := Lib.hid hT
          clear hIF hRR hT
          go_wp2_with fail
          refine HT.out.mono ?_
          rintro e w7 ⟨⟨v, rfl⟩, hR7, hb7⟩
          have HR7 := Lib.hid hR7
          have HB7 := Lib.hid hb7
          clear hR7 hb7
          go_wp2
          go_roundw
          case rel => exact ⟨m + 1, by omega, by go_num, HR7.out, (HBW.out.trans (HNX.out.mono (by omega))).trans HB7.out⟩
          case measure => simp [intOf]; omega
    · obtain rfl : m = N := by omega
      have HMW : Hid (Below w.heap.size w wr) := by
        show Below _ _ _
        exact HMB.out.trans (HBW.out.mono hbR0)
      go_wp2
      go_ret2
      exact ⟨⟨bR, hbR0, rfl, by rw [HNN.out]; exact HR.out⟩, HMW.out⟩
end Go.Proofs.Ytogkjaohphnflaa
