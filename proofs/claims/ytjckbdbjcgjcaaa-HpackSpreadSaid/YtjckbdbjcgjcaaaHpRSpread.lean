/- The reference's Spread: the walk. Printed by a program (gen_spread.py). -/
import Derived.Test.YtjckbdbjcgjcaaaHpSpread
namespace Go.Proofs.Ytjckbdbjcgjcaaa
open Go.RowKit
set_option maxRecDepth 100000 in
set_option maxHeartbeats 3000000 in
theorem rspread_any (A : Option Addr) (l : List Bx) (c : Nat) (B : Option Addr) (gs : List Gu.Gl) (d : Nat) (wd : Int) (w : World) (hc : cntL l ≤ 1000) (hg : gs.length ≤ lenMax) (hK : Kids w 0 w.heap.size A l) (hI : Gu.Gls w w.heap.size B gs) :
    Calls Try.prog 13 #[.slice A l.length c, .slice B gs.length d, .int .i64 wd] w (PPost w.heap.size (sprB l gs wd) (sprE l gs wd) w) := by
  obtain ⟨i1, hi1, hy0, hy1, hy2⟩ := info_parts infoBox
  have HCN := Lib.hid hc
  have hl : l.length ≤ 1000 := by have := cnt_len l; omega
  have hg' : gs.length ≤ 9223372036854775807 := hg
  have HK := Lib.hid (And.intro hK (And.intro hI hg))
  obtain ⟨v, hv⟩ := bool_of (allV l)
  obtain ⟨v', hv'⟩ := bool_of (Gu.VG gs)
  have HV := Lib.hid hv
  have HV' := Lib.hid hv'
  clear hc hg hK hI hv hv'
  go_enter Try.func13, Try.ntmps13
  go_wp2_with fail
  have d0 := blk_new w (.cells zeroBox 28)
  have hb := one_below w (.cells zeroBox 28)
  refine (rhvalid_any A l c (w.alloc (.cells zeroBox 28)) HV.out HCN.out (HK.out.1.next hb)).mono ?_
  rintro e w1 ⟨rfl, hb1⟩
  have HZ := Lib.hid ((hb1.block w.heap.size (by simp)).trans d0)
  have HB1 := Lib.hid (below_next hb hb1)
  clear hb1 d0 hb
  cases v with
  | false =>
    go_wp2_with ((with_reducible refine at_store 28 ?_); go_loud (refine wpList_store_all i1 11 hi1 hy1 rfl rfl rfl HZ.out (by decide) (bxA_one zeroBx none 0 none 0) ?_); rw [row_all _ _ rfl rfl])
    refine bodyPost_ret (results_cell_tmp rfl _ i1 11 hi1 hy1 _ Try.underlying28 rfl rfl (fun j _ => by rw [Nat.zero_add]; exact cell_setRow_same _ _ _ _ _ _ _ HZ.out)) rfl ?_
    exact PPost.zero (spr_1 fun h => by have := HV.out.2 h.1; simp at this) (below_setRow HB1.out (Nat.le_refl _) _)
  | true =>
    have HAV : Hid (allV l) := HV.out.1 rfl
    clear HV
    go_wp2_with fail
    refine (Gu.rvalidg_any B d gs w1 HK.out.2.2 (HK.out.2.1.next HB1.out) HV'.out).mono ?_
    rintro e w2 ⟨rfl, hb2⟩
    have HZ2 := Lib.hid ((hb2.block w.heap.size (Array.getElem?_eq_some_iff.1 HZ.out).1).trans HZ.out)
    have HB2 := Lib.hid (below_next HB1.out hb2)
    clear hb2 HZ HB1
    cases v' with
    | false =>
      go_wp2_with ((with_reducible refine at_store 28 ?_); go_loud (refine wpList_store_all i1 11 hi1 hy1 rfl rfl rfl HZ2.out (by decide) (bxA_one zeroBx none 0 none 0) ?_); rw [row_all _ _ rfl rfl])
      refine bodyPost_ret (results_cell_tmp rfl _ i1 11 hi1 hy1 _ Try.underlying28 rfl rfl (fun j _ => by rw [Nat.zero_add]; exact cell_setRow_same _ _ _ _ _ _ _ HZ2.out)) rfl ?_
      exact PPost.zero (spr_1 fun h => by have := HV'.out.2 h.2; simp at this) (below_setRow HB2.out (Nat.le_refl _) _)
    | true =>
      have HGV : Hid (Gu.VG gs) := HV'.out.1 rfl
      clear HV'
      go_wp2_with fail
      refine (width_any A l c w2 hl (HK.out.1.next HB2.out)).mono ?_
      rintro e wr ⟨rfl, hbr⟩
      have HBW : Hid (Below w.heap.size w wr) := below_next HB2.out hbr
      have HZW : Hid (wr.heap[w.heap.size]? = some (.cells zeroBox 28 (0, 0))) := (hbr.block _ (Array.getElem?_eq_some_iff.1 HZ2.out).1).trans HZ2.out
      clear hbr
      obtain ⟨tw, htw⟩ : ∃ tw, widX l l.length = tw := ⟨_, rfl⟩
      obtain ⟨rr, hrr⟩ : ∃ rr, sprR l wd = rr := ⟨_, rfl⟩
      have sr : IntKind.i64.wrap (wd - tw) = rr := by rw [← hrr, sprR, htw]
      have HTW := Lib.hid (And.intro htw hrr)
      rw [htw]
      clear htw hrr
      have s0 : IntKind.i64.wrap ((l.length : Int) + 1) = (l.length : Int) + 1 := IntWalk.i64_in _ (by omega)
      by_cases hgl : gs.length = l.length + 1
      case neg =>
        have q0 : ¬ ((gs.length : Int) = (l.length : Int) + 1) := by omega
        have q1 : ((gs.length : Int) != (l.length : Int) + 1) = true := by simp; omega
        have HGL := Lib.hid hgl
        clear hgl
        go_wp2_with ((with_reducible refine at_store 28 ?_); go_loud (refine wpList_store_all i1 11 hi1 hy1 rfl rfl rfl HZW.out (by decide) (bxA_one zeroBx none 0 none 0) ?_); rw [row_all _ _ rfl rfl])
        refine bodyPost_ret (results_cell_tmp rfl _ i1 11 hi1 hy1 _ Try.underlying28 rfl rfl (fun j _ => by rw [Nat.zero_add]; exact cell_setRow_same _ _ _ _ _ _ _ HZW.out)) rfl ?_
        exact PPost.zero (spr_2 ⟨HAV.out, HGV.out⟩ fun h => HGL.out h.1) (below_setRow HBW.out (Nat.le_refl _) _)
      have hgi : (gs.length : Int) = (l.length : Int) + 1 := by omega
      have HGL := Lib.hid hgl
      clear hgl
      obtain ⟨v1, hv1⟩ := bool_of (rngL wd)
      obtain ⟨v2, hv2⟩ := bool_of (rngL rr)
      have HV1 := Lib.hid hv1
      have HV2 := Lib.hid hv2
      clear hv1 hv2
      go_wp2_with fail
      refine (rlvalid_any wd wr HV1.out).mono ?_
      rintro e wa ⟨rfl, hwa⟩
      subst hwa
      cases v1 with
      | false =>
        go_wp2_with ((with_reducible refine at_store 28 ?_); go_loud (refine wpList_store_all i1 11 hi1 hy1 rfl rfl rfl HZW.out (by decide) (bxA_one zeroBx none 0 none 0) ?_); rw [row_all _ _ rfl rfl])
        refine bodyPost_ret (results_cell_tmp rfl _ i1 11 hi1 hy1 _ Try.underlying28 rfl rfl (fun j _ => by rw [Nat.zero_add]; exact cell_setRow_same _ _ _ _ _ _ _ HZW.out)) rfl ?_
        exact PPost.zero (spr_2 ⟨HAV.out, HGV.out⟩ fun h => by have h2 := HV1.out.2 h.2.1; simp at h2) (below_setRow HBW.out (Nat.le_refl _) _)
      | true =>
        have HW : Hid (rngL wd) := HV1.out.1 rfl
        clear HV1
        go_wp2_with fail
        refine (rlvalid_any rr wa HV2.out).mono ?_
        rintro e wb ⟨rfl, hwb⟩
        subst hwb
        cases v2 with
        | false =>
          go_wp2_with ((with_reducible refine at_store 28 ?_); go_loud (refine wpList_store_all i1 11 hi1 hy1 rfl rfl rfl HZW.out (by decide) (bxA_one zeroBx none 0 none 0) ?_); rw [row_all _ _ rfl rfl])
          refine bodyPost_ret (results_cell_tmp rfl _ i1 11 hi1 hy1 _ Try.underlying28 rfl rfl (fun j _ => by rw [Nat.zero_add]; exact cell_setRow_same _ _ _ _ _ _ _ HZW.out)) rfl ?_
          exact PPost.zero (spr_2 ⟨HAV.out, HGV.out⟩ fun h => by have h2 := HV2.out.2 (by rw [← HTW.out.2]; exact h.2.2); simp at h2) (below_setRow HBW.out (Nat.le_refl _) _)
        | true =>
          have HRR : Hid (rngL rr) := HV2.out.1 rfl
          clear HV2
          have HOK : Hid (sprOk l gs wd) := ⟨HGL.out, HW.out, by rw [HTW.out.2]; exact HRR.out⟩
          have HSL := Lib.hid (sprS_len ⟨HAV.out, HGV.out⟩ HOK.out)
          have HPE := Lib.hid (spr_3 ⟨HAV.out, HGV.out⟩ HOK.out)
          have HSS : Hid (sprS l gs wd = Gu.setL gs rr) := by show _ = _; rw [sprS, HTW.out.2]
          go_wp2_with fail
          refine (Gu.rset_any B d gs rr wb HK.out.2.2 (HK.out.2.1.next HBW.out)).mono ?_
          rintro e w1 ⟨⟨AS, cS, rfl, hIS⟩, hbS⟩
          have hIS' := gints hIS
          rw [← HSS.out] at hIS' ⊢
          obtain ⟨er, her⟩ : ∃ er, Gu.setR gs rr = er := ⟨_, rfl⟩
          have hee := HSL.out.2
          rw [HTW.out.2] at hee
          rw [her, hee, HSL.out.1]
          have HIS := Lib.hid hIS'
          have HB1 := Lib.hid (below_next HBW.out hbS)
          have HZ : Hid (w1.heap[w.heap.size]? = some (.cells zeroBox 28 (0, 0))) := (hbS.block _ (Array.getElem?_eq_some_iff.1 HZW.out).1).trans HZW.out
          clear hIS hIS' hbS her hee
          obtain ⟨S, hS⟩ : ∃ S, sprS l gs wd = S := ⟨_, rfl⟩
          rw [hS] at HSL HPE HIS
          clear HSS hS
          rw [← HTW.out.1]
          go_wp2_with fail
          go_loopw [8, 12] (fun v q wy => ∃ k : Nat, k ≤ l.length + 1 ∧ q = .int .i64 (k : Int) ∧ v = .int .i64 (spW l S k) ∧ wy = w1) (fun _ q _ => l.length + 1 - (intOf q).toNat)
          case atStart => exact ⟨0, Nat.zero_le _, rfl, rfl, rfl⟩
          case round =>
            obtain ⟨k, hk, rfl, rfl, hwy⟩ := hrel
            subst hwy
            by_cases hkt : k < l.length + 1
            · obtain ⟨gb, go, rfl, _, hgb, hgc⟩ := HIS.out (by have := HSL.out.1; omega)
              obtain ⟨sp, hsp⟩ : ∃ sp, lAt S k = sp := ⟨_, rfl⟩
              have yg := hgc k (by have := HSL.out.1; omega)
              rw [hsp] at yg
              obtain ⟨v, hv⟩ : ∃ v, spW l S k = v := ⟨_, rfl⟩
              obtain ⟨v', hv'⟩ : ∃ v', spW l S (k + 1) = v' := ⟨_, rfl⟩
              have s1 : IntKind.i64.wrap (v + sp) = v' := by rw [← hv', spW, hv, hsp]
              have HN := Lib.hid hv'
              rw [hv]
              clear hgc hsp hv hv'
              go_wp2_with fail
              go_roundw
              case rel => exact ⟨k + 1, by omega, by go_num, by rw [HN.out], by first | rfl | trivial⟩
              case measure => simp [intOf]; omega
            · obtain rfl : k = l.length + 1 := by omega
              rename World => wy
              go_wp2_with fail
              have hws : w.heap.size < wy.heap.size := (Array.getElem?_eq_some_iff.1 HZ.out).1
              refine (rplace_any w.heap.size A l c AS S (l.length + 1) cS (spW l S (l.length + 1)) wy HCN.out HAV.out HSL.out.1 (Nat.le_succ _) (by unfold lenMax; omega) (by omega) ((HK.out.1.low HB1.out).rowIn (by omega)) HIS.out).mono ?_
              rintro e w5 hp5
              obtain ⟨A2, c2, rfl, hz5, hp6⟩ := PPost.up (w := w) hp5 (Nat.le_refl _) (by omega) rfl (below_next HB1.out hp5.2) ((hp5.2.block _ (by omega)).trans HZ.out)
              rw [← HPE.out.1, ← HPE.out.2] at hp6 ⊢
              have HP6 := Lib.hid hp6
              have HZ5 := Lib.hid hz5
              clear hp5 hp6 hz5 hws
              go_wp2_with ((with_reducible refine at_store 28 ?_); go_loud (refine wpList_store_all i1 11 hi1 hy1 rfl rfl rfl HZ5.out (by decide) (bxA_one (sprB l gs wd) A2 c2 none 0) ?_); rw [row_all _ _ rfl rfl])
              refine bodyPost_ret (results_cell_tmp rfl _ i1 11 hi1 hy1 _ Try.underlying28 rfl rfl (fun j _ => by rw [Nat.zero_add]; exact cell_setRow_same _ _ _ _ _ _ _ HZ5.out)) rfl ?_
              exact HP6.out
end Go.Proofs.Ytjckbdbjcgjcaaa
