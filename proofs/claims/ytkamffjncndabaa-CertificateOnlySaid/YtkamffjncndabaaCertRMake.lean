/- The reference's Make. -/
import Derived.Test.YtkamffjncndabaaCertMake
namespace Go.Proofs.Ytkamffjncndabaa
open Go.RowKit
/-- The potentials while those of piece i are sought. -/
def potR (C : Nat → Nat → Int) (G : Nat → Nat → Bool) (T : Nat → Int) (i c : Nat) : Nat → Int := fun k => if k = i then potE C G T i (T i) c else T k
theorem potR_zero (C : Nat → Nat → Int) (G : Nat → Nat → Bool) (T : Nat → Int) (i k : Nat) : T k = potR C G T i 0 k := by
  unfold potR
  by_cases e : k = i
  · rw [if_pos e, e]; rfl
  · rw [if_neg e]
theorem potR_skip {C : Nat → Nat → Int} {G : Nat → Nat → Bool} {T : Nat → Int} {i c : Nat} (h : ¬ (G i (i + 1 + c) = true ∧ (c = 0 ∨ C i (i + 1 + c) + T (i + 1 + c) < potE C G T i (T i) c))) (k : Nat) : potR C G T i c k = potR C G T i (c + 1) k := by
  unfold potR
  have e : potE C G T i (T i) (c + 1) = if G i (i + 1 + c) = true ∧ (c = 0 ∨ C i (i + 1 + c) + T (i + 1 + c) < potE C G T i (T i) c) then C i (i + 1 + c) + T (i + 1 + c) else potE C G T i (T i) c := rfl
  rw [e, if_neg h]
theorem potR_take {C : Nat → Nat → Int} {G : Nat → Nat → Bool} {T : Nat → Int} {i c : Nat} (h : G i (i + 1 + c) = true ∧ (c = 0 ∨ C i (i + 1 + c) + T (i + 1 + c) < potE C G T i (T i) c)) (k : Nat) :
    potR C G T i (c + 1) k = if k = i then C i (i + 1 + c) + T (i + 1 + c) else potR C G T i c k := by
  unfold potR
  have e : potE C G T i (T i) (c + 1) = if G i (i + 1 + c) = true ∧ (c = 0 ∨ C i (i + 1 + c) + T (i + 1 + c) < potE C G T i (T i) c) then C i (i + 1 + c) + T (i + 1 + c) else potE C G T i (T i) c := rfl
  rw [e, if_pos h]
  by_cases e2 : k = i
  · rw [if_pos e2, if_pos e2]
  · rw [if_neg e2, if_neg e2, if_neg e2]
theorem potE_bound {n : Nat} {C : Nat → Nat → Int} {G : Nat → Nat → Bool} {T : Nat → Int} {i : Nat} {M K : Int} (hK : 0 ≤ K) (hM : ∀ j, -M ≤ T j ∧ T j ≤ M) (hC : ∀ j, i < j → j ≤ n → -K ≤ C i j ∧ C i j ≤ K) : ∀ c, i + c ≤ n → -(M + K) ≤ potE C G T i (T i) c ∧ potE C G T i (T i) c ≤ M + K
  | 0, _ => by
    have := hM i
    show _ ≤ T i ∧ T i ≤ _
    omega
  | c + 1, h => by
    have ih := potE_bound (G := G) hK hM hC c (by omega)
    have h1 := hM (i + 1 + c)
    have h2 := hC (i + 1 + c) (by omega) (by omega)
    have e : potE C G T i (T i) (c + 1) = if G i (i + 1 + c) = true ∧ (c = 0 ∨ C i (i + 1 + c) + T (i + 1 + c) < potE C G T i (T i) c) then C i (i + 1 + c) + T (i + 1 + c) else potE C G T i (T i) c := rfl
    rw [e]
    split <;> omega
theorem mk_rest {n : Nat} {C : Nat → Nat → Int} {G : Nat → Nat → Bool} : ∀ d, d ≤ n → ∀ j, j < n - d ∨ n < j → mkF C G (pairsL n d) j = 0
  | 0, _, _, _ => rfl
  | d + 1, hd, j, h => by
    have ih := mk_rest (C := C) (G := G) d (show d ≤ n by omega)
    have e : mkF C G (pairsL n (d + 1)) = (rowL (n - 1 - d) (d + 1)).foldl (mkStep C G) (mkF C G (pairsL n d)) := by
      unfold mkF
      rw [← List.foldl_append]
      rfl
    rw [e, mk_row]
    dsimp only
    rw [if_neg (by omega)]
    exact ih j (by omega)
theorem w5_drew {W : World} {b : Nat} {o : Option Obj} (h : W.heap[b]? = o) (k : Nat) : (W.drewN k).heap[b]? = o := h
set_option maxRecDepth 100000 in
set_option maxHeartbeats 2000000 in
theorem rMake_yes (A : Option Addr) (c : Nat) (ps : List Pc) (wd ind : Int) (w : World) (hp : parB ps wd ind = true) (hP : Pcs w w.heap.size A ps) :
    Calls Try.prog 12 #[.slice A ps.length c, .int .i64 wd, .int .i64 ind] w fun e w' =>
      (∃ b cs, e = .returned (.tuple #[.slice (some ⟨b, 0, none⟩) (ps.length + 1) (ps.length + 1), .int .i64 0]) ∧ w.heap.size ≤ b ∧ w'.heap[b]? = some (.cells cs 3 (0, 0)) ∧ IntC cs ps.length (pT ps wd ind)) ∧ Below w.heap.size w w' := by
  have hv := (parB_iff.1 hp).1
  have hf := (parB_iff.1 hp).2
  have h64 := (validB_iff.1 hv).1.2
  have h1 := (validB_iff.1 hv).1.1
  have HM : Hid (ps.length ≤ lenMax) := by show _ ≤ _; unfold lenMax; omega
  have HQ := Lib.hid hp
  have HV := Lib.hid hv
  have HFF := Lib.hid hf
  have HP := Lib.hid hP
  clear hv hf hP hp
  have hmi := make_ints ps.length (by omega)
  have e0 : IntKind.i64.wrap ((ps.length : Int) + 1) = (ps.length : Int) + 1 := IntWalk.i64_in _ (by omega)
  go_enter Try.func12, Try.ntmps12
  go_wp2_with fail
  refine (rfits_par _ _ ps _ _ _ HQ.out HM.out HP.out).mono ?_
  rintro e w1 ⟨rfl, hb1⟩
  go_wp2_with fail
  obtain ⟨t, ht⟩ : ∃ t, t = w1.heap.size := ⟨_, rfl⟩
  have htw : w.heap.size ≤ t := by rw [ht]; exact hb1.size
  have k0 := blk_new w1 (.cells (madeCells #[.int .i64 0] (ps.length + 1)) 3)
  have kB : Below w.heap.size w (w1.alloc (.cells (madeCells #[.int .i64 0] (ps.length + 1)) 3)) := hb1.alloc hb1.size _
  have ks : (w1.alloc (.cells (madeCells #[.int .i64 0] (ps.length + 1)) 3)).heap.size = t + 1 := by rw [ht]; simp
  rw [← ht] at k0 ⊢
  generalize (w1.alloc (.cells (madeCells #[.int .i64 0] (ps.length + 1)) 3)) = W0 at k0 kB ks ⊢
  have HK := Lib.hid (And.intro k0 kB)
  clear k0 kB ht hmi e0 hb1
  go_loopw [9] (fun q wr => ∃ (d : Nat) (cs : Array Value), d ≤ ps.length ∧ q = .int .i64 ((ps.length : Int) - 1 - (d : Int)) ∧ wr.heap[t]? = some (.cells cs 3 (0, 0)) ∧ IntC cs ps.length (mkF (cC ps wd ind) (gG ps wd ind) (pairsL ps.length d)) ∧ Below t W0 wr) (fun q _ => (intOf q + 1).toNat)
  case atStart => exact ⟨0, _, Nat.zero_le _, by go_num, HK.out.1, intC_made _, Below.refl _ _⟩
  case round =>
    obtain ⟨d, cs, hd, rfl, hcs, hic, hbw⟩ := hrel
    have hws := hbw.size
    rw [ks] at hws
    have HIC := Lib.hid (And.intro hcs hic)
    have HBW := Lib.hid hbw
    clear hcs hic hbw
    by_cases hlt : d < ps.length
    · obtain ⟨i, hi, hid⟩ : ∃ i : Nat, (ps.length : Int) - 1 - (d : Int) = (i : Int) ∧ i = ps.length - 1 - d := ⟨ps.length - 1 - d, by omega, rfl⟩
      rw [hi]
      have hil : i < ps.length := by omega
      have HID := Lib.hid (And.intro hi hid)
      clear hi hid
      obtain ⟨T, hT⟩ : ∃ T, mkF (cC ps wd ind) (gG ps wd ind) (pairsL ps.length d) = T := ⟨_, rfl⟩
      have hTp : ∀ j, i < j → j ≤ ps.length → T j = pT ps wd ind j := fun j a b => by
        rw [← hT]
        have := HID.out.2
        exact mk_pairs d hd j (by omega) b
      have hTz : ∀ j, -64000000000 ≤ T j ∧ T j ≤ 64000000000 := by
        intro j
        rw [← hT]
        by_cases h : ps.length - d ≤ j ∧ j ≤ ps.length
        · rw [mk_pairs d hd j h.1 h.2]
          exact pT_bound HV.out HFF.out h.2
        · rw [mk_rest d hd j (by omega)]
          omega
      rw [hT] at HIC
      have HT := Lib.hid (And.intro hT (And.intro hTp hTz))
      clear hT hTp hTz
      obtain ⟨wo, rfl⟩ : ∃ wo : World, wo = wr := ⟨_, rfl⟩
      go_wp2_with fail
      go_loopw [10, 11] (fun f q wr => ∃ (k : Nat) (cs : Array Value), i + k ≤ ps.length ∧ f = .bool (decide (0 < k)) ∧ q = .int .i64 ((i : Int) + (k : Int) + 1) ∧ wr.heap[t]? = some (.cells cs 3 (0, 0)) ∧ IntC cs ps.length (potR (cC ps wd ind) (gG ps wd ind) T i k) ∧ Below t wo wr) (fun _ q _ => ps.length + 1 - (intOf q).toNat)
      case atStart => exact ⟨0, cs, by omega, by simp, by simp, HIC.out.1, HIC.out.2.congr (fun k _ => potR_zero _ _ _ _ _), Below.refl _ _⟩
      case round =>
        obtain ⟨k, cs2, hk, rfl, rfl, hcs2, hic2, hbw2⟩ := hrel
        have hws2 := hbw2.size
        have HIC2 := Lib.hid (And.intro hcs2 hic2)
        have HBW2 := Lib.hid hbw2
        clear hcs2 hic2 hbw2
        by_cases hkl : i + k < ps.length
        · have hT1 := HT.out.2.2 (i + 1 + k)
          have hxb := cC_bound HV.out HFF.out (i := i) (j := i + 1 + k) (by omega) (by omega)
          have hpe := potE_bound (n := ps.length) (G := gG ps wd ind) (K := 1000000000) (by omega) HT.out.2.2 (fun j a b => cC_bound HV.out HFF.out (i := i) (j := j) (by omega) b) k (by omega)
          have hlj : potR (cC ps wd ind) (gG ps wd ind) T i k (i + 1 + k) = T (i + 1 + k) := by unfold potR; rw [if_neg (by omega)]
          have hli : potR (cC ps wd ind) (gG ps wd ind) T i k i = potE (cC ps wd ind) (gG ps wd ind) T i (T i) k := by unfold potR; rw [if_pos rfl]
          have HLJ : Hid (cs2[i + k + 1]? = some (.int .i64 (T (i + 1 + k)))) := by
            show _ = _
            rw [show i + k + 1 = i + 1 + k by omega, ← hlj]
            exact HIC2.out.2 _ (by omega)
          have HLI : Hid (cs2[i]? = some (.int .i64 (potE (cC ps wd ind) (gG ps wd ind) T i (T i) k))) := by
            show _ = _
            rw [← hli]
            exact HIC2.out.2 _ (by omega)
          have hP5 : Hid (Pcs wr wr.heap.size A ps) := by
            show Pcs _ _ _ _
            exact ((HP.out.below HK.out.2).below ((HBW.out.trans HBW2.out).mono htw)).mono (by omega)
          have htk := fun h => potR_take (C := cC ps wd ind) (G := gG ps wd ind) (T := T) (i := i) (c := k) h
          have hsk := fun h => potR_skip (C := cC ps wd ind) (G := gG ps wd ind) (T := T) (i := i) (c := k) h
          have eI : ((i : Int) + (k : Int) + 1).toNat = i + 1 + k := by omega
          obtain ⟨r, hr⟩ : ∃ r, gG ps wd ind i (i + 1 + k) = r := ⟨_, rfl⟩
          have hL := fun X hX => rline_any A c ps wd ind (i : Int) ((i : Int) + (k : Int) + 1) X (by omega) (by omega) (by omega) HV.out HFF.out hX (r := r) (by rw [Int.toNat_natCast, eI]; exact hr)
          simp only [Int.toNat_natCast, eI] at hL
          obtain ⟨x, hx⟩ : ∃ x, cC ps wd ind i (i + 1 + k) = x := ⟨_, rfl⟩
          obtain ⟨y, hy⟩ : ∃ y, T (i + 1 + k) = y := ⟨_, rfl⟩
          obtain ⟨z, hz⟩ : ∃ z, potE (cC ps wd ind) (gG ps wd ind) T i (T i) k = z := ⟨_, rfl⟩
          rw [hx] at hL hxb
          rw [hy] at HLJ hT1
          rw [hz] at HLI hpe
          rw [hr, hx, hy, hz] at htk hsk
          have HL := Lib.hid hL
          have HTK := Lib.hid htk
          have HSK := Lib.hid hsk
          have HRR := Lib.hid hr
          clear hL htk hsk hlj hli hx hy hz eI
          have s1 : IntKind.i64.wrap (x + y) = x + y := IntWalk.i64_in _ (by omega)
          have b1 : (i : Int) < (ps.length : Int) + 1 := by omega
          have b2 : (i : Int) + (k : Int) + 1 < (ps.length : Int) + 1 := by omega
          have b3 : i < ps.length + 1 := by omega
          have b4 : i + k + 1 < ps.length + 1 := by omega
          have b5 : ((i : Int) + (k : Int) + 1).toNat = i + k + 1 := by omega
          have b6 : (0 : Int) ≤ (i : Int) + (k : Int) + 1 := by omega
          by_cases hk0 : k = 0
          · have d1 : decide (0 < k) = false := by simp; omega
            have d2 : ¬ 0 < k := by omega
            have HK0 := Lib.hid hk0
            obtain rfl : r = true := by
              subst hk0
              rw [← hr]
              exact gG_one ps wd ind i
            clear hr hk0
            go_wp2_with fail
            refine (HL.out _ hP5.out).mono ?_
            rintro e w5 ⟨rfl, hb5⟩
            have lj := blk_cell ((hb5.block t (by omega)).trans HIC2.out.1) (i + k + 1) _ HLJ.out
            have li := blk_cell ((hb5.block t (by omega)).trans HIC2.out.1) i _ HLI.out
            have zi := blk_free ((hb5.block t (by omega)).trans HIC2.out.1) i
            have H5 := Lib.hid ((hb5.block t (by omega)).trans HIC2.out.1)
            have HB5 := Lib.hid hb5
            clear hb5
            simp only [cond_true]
            go_wp2_with fail
            go_quiet (fail)
            go_wp2
            go_roundw
            case rel =>
              refine ⟨k + 1, cs2.setIfInBounds i (.int .i64 (x + y)), by omega, by simp, by go_num, ?_, HIC2.out.2.set (by omega) (x + y) (fun m _ => HTK.out ⟨trivial, .inl HK0.out⟩ m), ?_⟩
              · exact blk_set (w5_drew H5.out nq) i _
              · exact (HBW2.out.trans ((below_drewN (Below.refl _ _) nq |> fun h => HB5.out.trans (h.mono HB5.out.size)).mono (by omega))).setCell (p := ⟨t, i, none⟩) (Nat.le_refl _) _
            case measure => simp [intOf]; omega
          · have d1 : decide (0 < k) = true := by simp; omega
            have d2 : 0 < k := by omega
            have HK0 := Lib.hid hk0
            clear hr hk0
            cases r
            · go_wp2_with fail
              refine (HL.out _ hP5.out).mono ?_
              rintro e w5 ⟨rfl, hb5⟩
              have lj := blk_cell ((hb5.block t (by omega)).trans HIC2.out.1) (i + k + 1) _ HLJ.out
              have li := blk_cell ((hb5.block t (by omega)).trans HIC2.out.1) i _ HLI.out
              have zi := blk_free ((hb5.block t (by omega)).trans HIC2.out.1) i
              have H5 := Lib.hid ((hb5.block t (by omega)).trans HIC2.out.1)
              have HB5 := Lib.hid hb5
              clear hb5
              simp only [cond_false]
              go_wp2_with fail
              go_quiet (fail)
              go_wp2
              go_roundw
              case rel =>
                refine ⟨k + 1, cs2, by omega, by first | (simp; done) | (simp; omega), by go_num, w5_drew H5.out nq, HIC2.out.2.congr (fun m _ => HSK.out (fun h => by cases h.1) m), ?_⟩
                exact HBW2.out.trans ((below_drewN (Below.refl _ _) nq |> fun h => HB5.out.trans (h.mono HB5.out.size)).mono (by omega))
              case measure => simp [intOf]; omega
            · by_cases hlt2 : x + y < z
              · have HLT := Lib.hid hlt2
                go_wp2_with fail
                refine (HL.out _ hP5.out).mono ?_
                rintro e w5 ⟨rfl, hb5⟩
                have lj := blk_cell ((hb5.block t (by omega)).trans HIC2.out.1) (i + k + 1) _ HLJ.out
                have li := blk_cell ((hb5.block t (by omega)).trans HIC2.out.1) i _ HLI.out
                have zi := blk_free ((hb5.block t (by omega)).trans HIC2.out.1) i
                have H5 := Lib.hid ((hb5.block t (by omega)).trans HIC2.out.1)
                have HB5 := Lib.hid hb5
                clear hb5
                simp only [cond_true]
                go_wp2_with fail
                go_quiet (fail)
                go_wp2
                go_roundw
                case rel =>
                  refine ⟨k + 1, cs2.setIfInBounds i (.int .i64 (x + y)), by omega, by simp, by go_num, ?_, HIC2.out.2.set (by omega) (x + y) (fun m _ => HTK.out ⟨trivial, .inr HLT.out⟩ m), ?_⟩
                  · exact blk_set (w5_drew H5.out nq) i _
                  · exact (HBW2.out.trans ((below_drewN (Below.refl _ _) nq |> fun h => HB5.out.trans (h.mono HB5.out.size)).mono (by omega))).setCell (p := ⟨t, i, none⟩) (Nat.le_refl _) _
                case measure => simp [intOf]; omega
              · have HLT := Lib.hid hlt2
                have d3 : decide (x + y < z) = false := decide_eq_false hlt2
                go_wp2_with fail
                refine (HL.out _ hP5.out).mono ?_
                rintro e w5 ⟨rfl, hb5⟩
                have lj := blk_cell ((hb5.block t (by omega)).trans HIC2.out.1) (i + k + 1) _ HLJ.out
                have li := blk_cell ((hb5.block t (by omega)).trans HIC2.out.1) i _ HLI.out
                have zi := blk_free ((hb5.block t (by omega)).trans HIC2.out.1) i
                have H5 := Lib.hid ((hb5.block t (by omega)).trans HIC2.out.1)
                have HB5 := Lib.hid hb5
                clear hb5
                simp only [cond_true]
                go_wp2_with fail
                go_quiet (fail)
                go_wp2
                go_roundw
                case rel =>
                  refine ⟨k + 1, cs2, by omega, by first | (simp; done) | (simp; omega), by go_num, w5_drew H5.out nq, HIC2.out.2.congr (fun m _ => HSK.out (fun h => by rcases h.2 with h | h; exact HK0.out h; have := HLT.out; omega) m), ?_⟩
                  exact HBW2.out.trans ((below_drewN (Below.refl _ _) nq |> fun h => HB5.out.trans (h.mono HB5.out.size)).mono (by omega))
                case measure => simp [intOf]; omega
        · have hke : i + k = ps.length := by omega
          have HFI : Hid (IntC cs2 ps.length (mkF (cC ps wd ind) (gG ps wd ind) (pairsL ps.length (d + 1)))) := by
            show IntC _ _ _
            refine HIC2.out.2.congr (fun m _ => ?_)
            have e : mkF (cC ps wd ind) (gG ps wd ind) (pairsL ps.length (d + 1)) = (rowL (ps.length - 1 - d) (d + 1)).foldl (mkStep (cC ps wd ind) (gG ps wd ind)) (mkF (cC ps wd ind) (gG ps wd ind) (pairsL ps.length d)) := by
              unfold mkF
              rw [← List.foldl_append]
              rfl
            rw [e, mk_row, HT.out.1, ← HID.out.2]
            have hid2 := HID.out.2
            rw [show d + 1 = k by omega]
            rfl
          have HIX := Lib.hid hke
          have hcc : ¬ ((i : Int) + (k : Int) + 1 ≤ (ps.length : Int)) := by omega
          clear hke
          go_wp2
          go_roundw
          case rel => exact ⟨d + 1, cs2, by omega, by have := HID.out.1; go_num, HIC2.out.1, HFI.out, HBW.out.trans HBW2.out⟩
          case measure => simp [intOf]
    · obtain rfl : d = ps.length := by omega
      rw [show (ps.length : Int) - 1 - (ps.length : Int) = -1 by omega]
      have HFI : Hid (IntC cs ps.length (pT ps wd ind)) := HIC.out.2.congr (fun k hk => mk_pairs ps.length (Nat.le_refl _) k (by omega) hk)
      go_wp2
      go_ret2
      exact ⟨⟨t, cs, rfl, htw, HIC.out.1, HFI.out⟩, HK.out.2.trans (HBW.out.mono htw)⟩
theorem rMake_no (A : Option Addr) (c : Nat) (ps : List Pc) (wd ind : Int) (w : World) (hp : parB ps wd ind = false) (hm : ps.length ≤ lenMax) (hP : Pcs w w.heap.size A ps) :
    Calls Try.prog 12 #[.slice A ps.length c, .int .i64 wd, .int .i64 ind] w fun e w' => e = .returned (.tuple #[.slice none 0 0, .int .i64 1]) ∧ Below w.heap.size w w' := by
  have HM := Lib.hid hm
  have HP := Lib.hid hP
  have HQ := Lib.hid hp
  clear hm hP hp
  go_enter Try.func12, Try.ntmps12
  go_wp2_with fail
  refine (rfits_par _ _ ps _ _ _ HQ.out HM.out HP.out).mono ?_
  rintro e w1 ⟨rfl, hb1⟩
  go_wp2
  go_ret2
  exact ⟨rfl, hb1⟩
theorem rMake_any (A : Option Addr) (c : Nat) (ps : List Pc) (wd ind : Int) (w : World) (hm : ps.length ≤ lenMax) (hP : Pcs w w.heap.size A ps) :
    Calls Try.prog 12 #[.slice A ps.length c, .int .i64 wd, .int .i64 ind] w (MakeTo (makeL ps wd ind) (makeE ps wd ind) w) := by
  unfold makeL makeE
  cases hp : parB ps wd ind with
  | true =>
    refine (rMake_yes A c ps wd ind w hp hP).mono ?_
    rintro e w' ⟨⟨b, cs, he, _, hb, hc⟩, hbw⟩
    refine ⟨⟨some ⟨b, 0, none⟩, ps.length + 1, by rw [he]; simp only [if_true, potL_len], fun _ => ⟨b, 0, rfl, (Array.getElem?_eq_some_iff.1 hb).1, fun k hk => ?_⟩⟩, hbw⟩
    simp only [if_true] at hk ⊢
    rw [potL_len] at hk
    rw [potL_at _ _ _ (by omega), Nat.zero_add]
    exact blk_cell hb k _ (hc k (by omega))
  | false =>
    refine (rMake_no A c ps wd ind w hp hm hP).mono ?_
    rintro e w' ⟨he, hbw⟩
    exact ⟨⟨none, 0, he, fun h => absurd h (by simp)⟩, hbw⟩
end Go.Proofs.Ytkamffjncndabaa
