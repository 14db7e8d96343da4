/- The walk of DemeritSum. -/
import Derived.Test.YtdmcddhepgodhaaLawSingles
namespace Go.Proofs.Ytdmcddhepgodhaa
open Go.RowKit
def bAt (l : List Bool) (k : Nat) : Bool := l.getD k false
/-- The cells from A on, below block B, hold the bools l. -/
def Bools (w : World) (B : Nat) (A : Option Addr) (l : List Bool) : Prop :=
  0 < l.length → ∃ b off, A = some ⟨b, off, none⟩ ∧ b < B ∧ ∀ k, k < l.length → w.cell? ⟨b, off + k, none⟩ = some (.bool (bAt l k))
/-- The starts that bits pick among 1, .., k. -/
def stB (bits : List Bool) : Nat → List Int
  | 0 => [0]
  | k + 1 => if bAt bits (k + 1) = true then stB bits k ++ [((k + 1 : Nat) : Int)] else stB bits k
theorem lAt_append {l : List Int} {x : Int} {k : Nat} : (k < l.length → lAt (l ++ [x]) k = lAt l k) ∧ lAt (l ++ [x]) l.length = x := by
  constructor
  · intro h
    unfold lAt
    simp [List.getD, List.getElem?_append_left h]
  · unfold lAt
    simp [List.getD]
theorem okSts_more {n m : Nat} {l : List Int} {x : Int} (hnm : n ≤ m) : ∀ {k : Nat}, k ≤ l.length → okSts n l k = true → okSts m (l ++ [x]) k = true ∧ okSts m l k = true
  | 0, _, _ => ⟨rfl, rfl⟩
  | k + 1, hk, h => by
    unfold okSts at h
    rw [Bool.and_eq_true] at h
    have ih := okSts_more (m := m) (x := x) hnm (k := k) (by omega) h.1
    have h2 := okSt_iff.1 h.2
    constructor
    · show (okSts m (l ++ [x]) k && okSt m (l ++ [x]) k) = true
      rw [ih.1, Bool.true_and]
      refine okSt_iff.2 ?_
      rw [lAt_append.1 (by omega : k < l.length)]
      refine ⟨by omega, ?_⟩
      rcases h2.2 with h3 | h3
      · exact .inl h3
      · by_cases h0 : k = 0
        · exact .inl h0
        · rw [lAt_append.1 (by omega : k - 1 < l.length)]
          exact .inr h3
    · show (okSts m l k && okSt m l k) = true
      rw [ih.2, Bool.true_and]
      exact okSt_iff.2 ⟨by omega, h2.2⟩
theorem starts_snoc {n : Nat} {l : List Int} (h : startsB n l = true) : startsB (n + 1) (l ++ [(n : Int)]) = true := by
  have h' := startsB_iff.1 h
  refine startsB_iff.2 ⟨by simp, by rw [lAt_append.1 h'.1]; exact h'.2.1, ?_⟩
  rw [List.length_append]
  show (okSts (n + 1) (l ++ [(n : Int)]) l.length && okSt (n + 1) (l ++ [(n : Int)]) l.length) = true
  rw [(okSts_more (x := (n : Int)) (Nat.le_succ n) (Nat.le_refl _) h'.2.2).1, Bool.true_and]
  refine okSt_iff.2 ?_
  rw [(lAt_append (k := 0)).2, lAt_append.1 (by omega : l.length - 1 < l.length)]
  exact ⟨by omega, .inr (st_lt h (by omega))⟩
theorem starts_more {n m : Nat} {l : List Int} (h : startsB n l = true) (hm : n ≤ m) : startsB m l = true := by
  have h' := startsB_iff.1 h
  exact startsB_iff.2 ⟨h'.1, h'.2.1, (okSts_more (x := 0) hm (Nat.le_refl _) h'.2.2).2⟩
theorem stB_starts (bits : List Bool) : ∀ k : Nat, startsB (k + 1) (stB bits k) = true
  | 0 => rfl
  | k + 1 => by
    unfold stB
    split
    · exact starts_snoc (stB_starts bits k)
    · exact starts_more (stB_starts bits k) (by omega)
/-- The sum of the demerits of the legal lines among the first k. -/
def legS (ps : List Pc) (l : List Int) (w ind : Int) : Nat → Int
  | 0 => 0
  | k + 1 => legS ps l w ind k + (if legV ps (lAt l k).toNat (endAt ps.length l k).toNat (widAt w ind k) = true then demV ps (lAt l k).toNat (endAt ps.length l k).toNat (widAt w ind k) else 0)
theorem legS_eq {ps : List Pc} {l : List Int} {w ind : Int} : ∀ k : Nat, totL ps l w ind k = true → legS ps l w ind k = totS ps l w ind k
  | 0, _ => rfl
  | k + 1, h => by
    unfold totL at h
    rw [Bool.and_eq_true] at h
    unfold legS totS
    rw [legS_eq k h.1, if_pos h.2]
theorem legS_bound {ps : List Pc} {l : List Int} {w ind : Int} (hv : validB ps = true) (hf : fitsB w ind = true) (hs : startsB ps.length l = true) :
    ∀ k : Nat, k ≤ l.length → -9900 * (k : Int) ≤ legS ps l w ind k ∧ legS ps l w ind k ≤ 641320000 * (k : Int)
  | 0, _ => by simp [legS]
  | k + 1, hk => by
    have ih := legS_bound hv hf hs k (by omega)
    have h1 := st_lt hs (k := k) (by omega)
    have h2 := st_end hs (k := k) (by omega)
    have h3 := widAt_bound hf k
    have h4 := st_ge hs (k := k) (by omega)
    have := demV_bound hv (i := (lAt l k).toNat) (j := (endAt ps.length l k).toNat) (by omega) (by omega) h3.1 h3.2
    unfold legS
    split <;> omega
theorem Line_in (A : Option Addr) (c : Nat) (ps : List Pc) (i j wd : Int) (w : World) (h0 : 0 ≤ i) (hi : i < j) (hj : j ≤ (ps.length : Int)) (h1 : 1 ≤ wd) (h2 : wd ≤ 10000000) (hv : validB ps = true) (hm : ps.length ≤ lenMax) (hP : Pcs w w.heap.size A ps) {r : Bool} (hr : legV ps i.toNat j.toNat wd = r) :
    Calls Try.prog 12 #[.slice A ps.length c, .int .i64 i, .int .i64 j, .int .i64 wd] w fun e w' => e = .returned (.tuple #[.int .i64 (bif r then demV ps i.toNat j.toNat wd else 0), .int .i64 (bif r then 0 else 6)]) ∧ Below w.heap.size w w' := by
  have h := Line_any A c ps i j wd w hm hP
  rcases lineE_in hv h0 hi hj h1 h2 with ⟨hl, e1, e2⟩ | ⟨hl, e1, e2⟩
  · rw [e1, e2] at h
    rw [hl] at hr
    subst hr
    exact h
  · rw [e1, e2] at h
    rw [hl] at hr
    subst hr
    exact h
theorem Total_is {n' e' : Int} (A A2 : Option Addr) (c c2 : Nat) (ps : List Pc) (l : List Int) (wd ind : Int) (w : World) (hn : totN ps l wd ind = n') (he : totE ps l wd ind = e') (hm : ps.length ≤ lenMax) (hl : l.length ≤ lenMax) (hP : Pcs w w.heap.size A ps) (hI : Ints w w.heap.size A2 l) :
    Calls Try.prog 17 #[.slice A ps.length c, .slice A2 l.length c2, .int .i64 wd, .int .i64 ind] w fun e w' => e = .returned (.tuple #[.int .i64 n', .int .i64 e']) ∧ Below w.heap.size w w' := by
  rw [← hn, ← he]; exact Total_any A A2 c c2 ps l wd ind w hm hl hP hI
theorem stB_next_yes {bits : List Bool} {k : Nat} (h : bAt bits (k + 1) = true) : stB bits (k + 1) = stB bits k ++ [((k + 1 : Nat) : Int)] := by rw [stB, if_pos h]
theorem stB_next_no {bits : List Bool} {k : Nat} (h : bAt bits (k + 1) = false) : stB bits (k + 1) = stB bits k := by rw [stB, if_neg (by rw [h]; simp)]

theorem tot_final {ps : List Pc} {l : List Int} {w ind : Int} {r : Bool} (hv : validB ps = true) (hf : fitsB w ind = true) (hs : startsB ps.length l = true) (h : totL ps l w ind l.length = r) :
    (r = true ∧ totE ps l w ind = 0 ∧ totN ps l w ind = legS ps l w ind l.length) ∨ (r = false ∧ totE ps l w ind = 6 ∧ totN ps l w ind = 0) := by
  cases r
  · right
    have : totE ps l w ind = 6 := by unfold totE; rw [if_pos ⟨hv, hf⟩, if_pos hs, if_neg (by rw [h]; simp)]
    exact ⟨rfl, this, by unfold totN; rw [this]; rfl⟩
  · left
    have := tot_yes hv hf hs h
    exact ⟨rfl, this.1, by rw [this.2, legS_eq _ h]⟩
set_option maxRecDepth 100000 in
set_option maxHeartbeats 8000000 in
theorem demeritSum_walk (A : Option Addr) (c : Nat) (ps : List Pc) (A2 : Option Addr) (c2 : Nat) (bits : List Bool) (i j wd ind : Int) (w : World) (hm : ps.length ≤ lenMax) (hP : Pcs w w.heap.size A ps) (hm2 : bits.length ≤ lenMax) (hI : Bools w w.heap.size A2 bits) :
    Calls Try.prog 7 #[.slice A ps.length c, .slice A2 bits.length c2, .agg #[.int .i64 i, .int .i64 j, .int .i64 wd, .int .i64 ind]] w fun e w' => e = .returned (.bool true) ∧ Below w.heap.size w w' := by
  have hm' : ps.length ≤ 9223372036854775807 := hm
  have hm2' : bits.length ≤ 9223372036854775807 := hm2
  have HM := Lib.hid hm
  have HP := Lib.hid hP
  have HI := Lib.hid hI
  clear hm hP hm2 hI
  have HB : Hid (Below w.heap.size w (w.alloc (.cells #[.int .i64 i, .int .i64 j, .int .i64 wd, .int .i64 ind] 24))) := (Below.refl _ _).alloc (Nat.le_refl _) _
  cases hv : validB ps
  · have HV := Lib.hid hv
    clear hv
    go_enter Try.func7, Try.ntmps7
    go_wp2_with fail
    refine (awake_any _).mono ?_
    rintro e w1 ⟨rfl, hb1⟩
    go_wp2_with fail
    refine (rvalid_at _ _ ps _ HV.out HM.out (HP.out.next (below_next HB.out hb1))).mono ?_
    rintro e w2 ⟨rfl, hb2⟩
    go_wp2
    go_ret
    exact ⟨rfl, below_next HB.out (below_next hb1 hb2)⟩
  · have HV := Lib.hid hv
    clear hv
    have h64 := (validB_iff.1 HV.out).1.2
    have h1n := (validB_iff.1 HV.out).1.1
    cases hf : fitsB wd ind
    · have HF := Lib.hid hf
      clear hf
      go_enter Try.func7, Try.ntmps7
      go_wp2_with fail
      refine (awake_any _).mono ?_
      rintro e w1 ⟨rfl, hb1⟩
      go_wp2_with fail
      refine (rvalid_at _ _ ps _ HV.out HM.out (HP.out.next (below_next HB.out hb1))).mono ?_
      rintro e w2 ⟨rfl, hb2'⟩
      have hb2 := below_next hb1 hb2'
      have f2 := kept_box hb2 2 _ rfl
      have f3 := kept_box hb2 3 _ rfl
      go_wp2_with fail
      refine (rfits_at _ _ _ HF.out).mono ?_
      rintro e w3 ⟨rfl, hb3⟩
      go_wp2
      go_ret
      exact ⟨rfl, below_next HB.out (below_next hb2 hb3)⟩
    · have HF := Lib.hid hf
      clear hf
      obtain ⟨i0, hi0, hz0, hz1, hz2⟩ := info_parts info3
      go_enter Try.func7, Try.ntmps7
      go_wp2_with fail
      refine (awake_any _).mono ?_
      rintro e w1 ⟨rfl, hb1⟩
      go_wp2_with fail
      refine (rvalid_at _ _ ps _ HV.out HM.out (HP.out.next (below_next HB.out hb1))).mono ?_
      rintro e w2 ⟨rfl, hb2'⟩
      have hb2 := below_next hb1 hb2'
      have f2 := kept_box hb2 2 _ rfl
      have f3 := kept_box hb2 3 _ rfl
      go_wp2_with fail
      refine (rfits_at _ _ _ HF.out).mono ?_
      rintro e w3 ⟨rfl, hb3'⟩
      have hb3 := below_next hb2 hb3'
      clear f2 f3 hb1 hb2' hb2 hb3'
      go_wp2_with fail
      go_loopw [7, 8] (fun v q wr => ∃ (k : Nat) (A' : Option Addr) (c' : Nat), k + 1 ≤ ps.length ∧ q = .int .i64 ((k : Int) + 1) ∧ v = .slice A' (stB bits k).length c' ∧ Owns wr w3.heap.size 3 A' c' (stB bits k) ∧ Below w3.heap.size w3 wr) (fun _ q _ => ps.length - (intOf q).toNat)
      case atStart => exact ⟨0, _, _, h1n, by go_num, rfl, Owns.one w3 3 0, (Below.refl _ _).alloc (Nat.le_refl _) _⟩
      case round =>
        obtain ⟨k, A', c', hk, rfl, rfl, hown, hnx⟩ := hrel
        have hst := stB_starts bits k
        have hlen := st_len hst
        have HO := Lib.hid hown
        clear hown
        by_cases hboth : k + 1 < ps.length ∧ k + 1 < bits.length
        · obtain ⟨hlt1, hlt2⟩ := hboth
          obtain ⟨b, off, rfl, hB, hc⟩ := HI.out (by omega)
          have ck := ((below_next (below_next HB.out hb3) hnx).cell (p := ⟨b, off + (k + 1), none⟩) hB).trans (hc (k + 1) hlt2)
          clear hc
          cases hbit : bAt bits (k + 1)
          · rw [hbit] at ck
            have HBIT := Lib.hid hbit
            clear hbit
            go_wp2
            go_roundw
            case rel => exact ⟨k + 1, A', c', by omega, by go_num, by rw [stB_next_no HBIT.out], by rw [stB_next_no HBIT.out]; exact HO.out, hnx⟩
            case measure => simp [intOf]; omega
          · rw [hbit] at ck
            have HBIT := Lib.hid hbit
            clear hbit
            go_wp2_with (at_builtin; refine wpList_append_one (z := ((k : Int) + 1)) rfl _ _ 37 3 rfl i0 Try.underlying37 hi0 hz0 hz1 hz2 (l := stB bits k) rfl rfl (HO.out.alloc _) rfl (heap_alloc_new _ _) (by omega) (by have := hnx.size; simp; omega) ?_; intro A3 c3 w5 hown2 hb5)
            go_roundw
            case rel => exact ⟨k + 1, A3, c3, by omega, by go_num, by rw [stB_next_yes HBIT.out, List.length_append]; rfl, by rw [stB_next_yes HBIT.out]; exact hown2, (hnx.alloc hnx.size _).trans hb5⟩
            case measure => simp [intOf]; omega
        · have hcase : (¬ k + 1 < ps.length) ∨ (k + 1 < ps.length ∧ ¬ k + 1 < bits.length) := by omega
          have hst2 := starts_more (m := ps.length) hst hk
          have hl64 := st_len hst2
          have hlp := (startsB_iff.1 hst2).1
          have HS := Lib.hid hst2
          obtain ⟨l, hl⟩ : ∃ l, stB bits k = l := ⟨_, rfl⟩
          rw [hl] at HS HO hl64 hlp hlen ⊢
          have hbr := below_next hb3 hnx
          have HBR := Lib.hid hbr
          clear hst hst2 hl hboth hb3
          obtain ⟨wo, rfl⟩ : ∃ wo : World, wo = wr := ⟨_, rfl⟩
          rcases hcase with hq | ⟨hq, hq2⟩
          all_goals
            go_wp2_with fail
            go_loopw [9, 10, 11] (fun s g q wr2 => ∃ (m : Nat) (r : Bool), m ≤ l.length ∧ q = .int .i64 m ∧ s = .int .i64 (legS ps l wd ind m) ∧ g = .bool r ∧ totL ps l wd ind m = r ∧ Below wo.heap.size wo wr2) (fun _ _ q _ => l.length - (intOf q).toNat)
            case atStart => exact ⟨0, true, Nat.zero_le _, rfl, rfl, rfl, rfl, Below.refl _ _⟩
            case round =>
              obtain ⟨m, r, hm2, rfl, rfl, rfl, hr, hn2⟩ := hrel
              have HR := Lib.hid hr
              clear hr
              have hbq := below_next HBR.out hn2
              have HBQ := Lib.hid hbq
              have f2 := kept_box hbq 2 _ rfl
              have f3 := kept_box hbq 3 _ rfl
              clear hbq
              by_cases hmlt : m < l.length
              · obtain ⟨b2, off2, rfl, hB2, hc2⟩ := HO.out.ints (by omega)
                have cm := (hn2.cell (p := ⟨b2, off2 + m, none⟩) hB2).trans (hc2 m hmlt)
                have hge := st_ge HS.out hmlt
                have hltn := st_lt HS.out hmlt
                have hend := st_end HS.out hmlt
                have hwid := widAt_bound HF.out m
                have hsb := legS_bound HV.out HF.out HS.out m hm2
                have hsb2 := legS_bound HV.out HF.out HS.out (m + 1) hmlt
                rw [legS] at hsb2
                have HEQ : Hid (legS ps l wd ind (m + 1) = legS ps l wd ind m + (if legV ps (lAt l m).toNat (endAt ps.length l m).toNat (widAt wd ind m) = true then demV ps (lAt l m).toNat (endAt ps.length l m).toNat (widAt wd ind m) else 0)) := rfl
                have HLQ : Hid (totL ps l wd ind (m + 1) = (r && legV ps (lAt l m).toNat (endAt ps.length l m).toNat (widAt wd ind m))) := by
                  show (totL ps l wd ind m && _) = _
                  rw [HR.out]
                have hwc : (0 < m ∧ widAt wd ind m = wd - ind) ∨ (¬ 0 < m ∧ widAt wd ind m = wd) := by
                  by_cases h : 0 < m
                  · exact .inl ⟨h, wid_more h⟩
                  · exact .inr ⟨h, wid_first h⟩
                have hec : (m + 1 < l.length ∧ endAt ps.length l m = lAt l (m + 1) ∧ wr.cell? ⟨b2, off2 + (m + 1), none⟩ = some (.int .i64 (lAt l (m + 1)))) ∨ (¬ m + 1 < l.length ∧ endAt ps.length l m = ps.length ∧ True) := by
                  by_cases h : m + 1 < l.length
                  · exact .inl ⟨h, end_more h, (hn2.cell (p := ⟨b2, off2 + (m + 1), none⟩) hB2).trans (hc2 (m + 1) h)⟩
                  · exact .inr ⟨h, end_last h, trivial⟩
                clear hc2
                obtain ⟨r2, hg⟩ : ∃ r2, legV ps (lAt l m).toNat (endAt ps.length l m).toNat (widAt wd ind m) = r2 := ⟨_, rfl⟩
                rw [hg] at hsb2 HEQ HLQ
                have HG := Lib.hid hg
                clear hg
                rcases hwc with ⟨hk0, e⟩ | ⟨hk0, e⟩
                all_goals
                  rw [e] at hwid hsb2 HEQ HG
                  clear e
                  rcases hec with ⟨hk1, e, ck1⟩ | ⟨hk1, e, ck1⟩
                  all_goals
                    rw [e] at hend hsb2 HEQ HG
                    clear e
                    first
                      | simp only [Int.toNat_natCast] at hsb2 HEQ HG
                      | generalize hX : lAt l (m + 1) = X at hend hsb2 HEQ HG ck1
                        clear hX
                    cases r2
                    all_goals
                      simp only [if_true, if_false, Bool.false_eq_true, Bool.and_true, Bool.and_false, Int.add_zero] at hsb2 HEQ HLQ
                      cases r
                      all_goals
                        go_wp2_with fail
                        go_quiet (fail)
                        have hb2q := below_drewN hn2 nq
                        go_wp2_with fail
                        refine (Line_in _ _ ps _ _ _ _ (by omega) (by omega) (by omega) (by omega) (by omega) HV.out HM.out (HP.out.next (below_drewN (below_next HB.out HBQ.out) nq)) (by simpa only [Int.toNat_natCast] using HG.out)).mono ?_
                        rintro e w6 ⟨rfl, hb6⟩
                        simp only [cond_true, cond_false, Int.toNat_natCast]
                        go_wp2
                        go_roundw
                        case rel => exact ⟨m + 1, _, by omega, by go_num, by rw [HEQ.out], rfl, by rw [HLQ.out], below_next (below_drewN hn2 nq) hb6⟩
                        case measure => simp [intOf]; omega
              · obtain rfl : m = l.length := by omega
                have hfin := tot_final HV.out HF.out HS.out HR.out
                have HI2 : Hid (Ints wr wr.heap.size A' l) := HO.out.ints.next hn2
                have hln : l.length ≤ lenMax := by unfold lenMax; omega
                have HLN := Lib.hid hln
                clear hln
                rcases hfin with ⟨rfl, e1, e2⟩ | ⟨rfl, e1, e2⟩
                all_goals
                  have HE := Lib.hid (And.intro e1 e2)
                  clear e1 e2
                  go_wp2_with fail
                  refine (Total_is _ _ _ _ ps l _ _ _ HE.out.2 HE.out.1 HM.out HLN.out (HP.out.next (below_next HB.out HBQ.out)) HI2.out).mono ?_
                  rintro e w6 ⟨rfl, hb6⟩
                  go_wp2
                  go_ret
                  exact ⟨rfl, below_next HB.out (below_next HBQ.out hb6)⟩
end Go.Proofs.Ytdmcddhepgodhaa
