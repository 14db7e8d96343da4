/- The law on a filled width: the walk. -/
import Derived.Test.YtjckbdbjcgjcaaaHpFill
import Derived.Test.YtjckbdbjcgjcaaaHpAwake
namespace Go.Proofs.Ytjckbdbjcgjcaaa
open Go.RowKit
set_option maxRecDepth 100000 in
set_option maxHeartbeats 3000000 in
theorem hpackFills_walk (A : Option Addr) (l : List Bx) (c : Nat) (B : Option Addr) (gs : List Gu.Gl) (d : Nat) (wd : Int) (w : World) (hl : l.length ≤ lenMax) (hg : gs.length ≤ lenMax) (hK : Kids w 0 w.heap.size A l) (hI : Gu.Gls w w.heap.size B gs) :
    Calls Try.prog 4 #[.slice A l.length c, .slice B gs.length d, .int .i64 wd] w fun e w' => e = .returned (.bool true) ∧ Below w.heap.size w w' := by
  obtain ⟨i1, hi1, hy0, hy1, hy2⟩ := info_parts infoBox
  have HK := Lib.hid (And.intro hK hI)
  have HL := Lib.hid (And.intro hl hg)
  have hl' : l.length ≤ 9223372036854775807 := hl
  have hg' : gs.length ≤ 9223372036854775807 := hg
  clear hK hI hl hg
  go_enter Try.func4, Try.ntmps4
  go_wp2_with fail
  refine (hawake_any w).mono ?_
  rintro e w1 ⟨rfl, hb1⟩
  have HB1 := Lib.hid hb1
  clear hb1
  by_cases hn : l.length ≤ 100
  case neg =>
    go_wp2
    go_ret
    exact ⟨rfl, HB1.out⟩
  obtain ⟨r, hr⟩ : ∃ r, decide (1 + cntL l ≤ 400) = r := ⟨_, rfl⟩
  have HR := Lib.hid hr
  clear hr
  go_wp2_with fail
  refine (few_any l 400 A c w1 (by omega) HR.out (HK.out.1.next HB1.out)).mono ?_
  rintro e w2 ⟨rfl, hb2⟩
  have HB2 := Lib.hid (below_next HB1.out hb2)
  clear hb2
  cases r with
  | false =>
    go_wp2
    go_ret
    exact ⟨rfl, HB2.out⟩
  | true =>
  have HCN : Hid (cntL l ≤ 1000) := by have := of_decide_eq_true HR.out; show _ ≤ _; omega
  clear HR
  obtain ⟨v, hv⟩ := bool_of (smallL l)
  have HV := Lib.hid hv
  clear hv
  go_wp2_with fail
  refine (small_any A l c w2 HV.out HCN.out (HK.out.1.next HB2.out)).mono ?_
  rintro e w3 ⟨rfl, hb3⟩
  have HB3 := Lib.hid (below_next HB2.out hb3)
  clear hb3
  cases v with
  | false =>
    go_wp2
    go_ret
    exact ⟨rfl, HB3.out⟩
  | true =>
  have HS : Hid (smallL l) := HV.out.1 rfl
  clear HV
  obtain ⟨v, hv⟩ := bool_of (Gu.VG gs)
  have HV := Lib.hid hv
  clear hv
  go_wp2_with fail
  refine (Gu.rvalidg_any B d gs w3 HL.out.2 (HK.out.2.next HB3.out) HV.out).mono ?_
  rintro e w4 ⟨rfl, hb4⟩
  have HB4 := Lib.hid (below_next HB3.out hb4)
  clear hb4
  cases v with
  | false =>
    go_wp2
    go_ret
    exact ⟨rfl, HB4.out⟩
  | true =>
  have HGV : Hid (Gu.VG gs) := HV.out.1 rfl
  clear HV
  have s0 : IntKind.i64.wrap ((l.length : Int) + 1) = (l.length : Int) + 1 := IntWalk.i64_in _ (by omega)
  by_cases hgl : gs.length = l.length + 1
  case neg =>
    have q0 : ¬ ((gs.length : Int) = (l.length : Int) + 1) := by omega
    have q1 : ((gs.length : Int) != (l.length : Int) + 1) = true := by simp; omega
    clear hgl
    go_wp2
    go_ret
    exact ⟨rfl, HB4.out⟩
  have HGL := Lib.hid hgl
  rw [hgl]
  clear hgl
  by_cases h0 : 0 ≤ wd
  case neg =>
    have q1 : wd < 0 := by omega
    clear h0
    go_wp2
    go_ret
    exact ⟨rfl, HB4.out⟩
  by_cases h1 : wd ≤ 16777216
  case neg =>
    have q1 : ¬ wd < 0 := by omega
    have q2 : 16777216 < wd := by omega
    clear h1
    go_wp2
    go_ret
    exact ⟨rfl, HB4.out⟩
  have HFP := Lib.hid (fill_all HS.out HCN.out hn HGV.out HGL.out h0 h1)
  have q1 : ¬ wd < 0 := by omega
  have q2 : ¬ 16777216 < wd := by omega
  have c1 : (((l.length + 1 : Nat) : Int)) = (l.length : Int) + 1 := by omega
  go_wp2_with fail
  go_loopw [7, 8] (fun v q wr => ∃ i : Nat, i ≤ l.length ∧ q = .int .i64 (i : Int) ∧ v = .int .i64 (widX l i) ∧ wr = w4) (fun _ q _ => l.length - (intOf q).toNat)
  case atStart => exact ⟨0, Nat.zero_le _, rfl, rfl, rfl⟩
  case round =>
    obtain ⟨i, hi, rfl, rfl, hwr⟩ := hrel
    subst hwr
    by_cases hlt : i < l.length
    · obtain ⟨kb, ko, A1, c1, A2, c2, rfl, _, hkb, hat, -⟩ := HK.out.1.at hlt
      obtain ⟨ww, hww⟩ : ∃ ww, (kidAt l i).w = ww := ⟨_, rfl⟩
      have y3 : wr.cell? ⟨kb, ko + i * 11 + 3, none⟩ = some (.int .i64 ww) := by rw [← hww]; exact (HB4.out.cell (p := ⟨kb, ko + i * 11 + 3, none⟩) hkb).trans (hat 3 (by omega))
      obtain ⟨v, hv⟩ : ∃ v, widX l i = v := ⟨_, rfl⟩
      obtain ⟨v', hv'⟩ : ∃ v', widX l (i + 1) = v' := ⟨_, rfl⟩
      have s1 : IntKind.i64.wrap (v + ww) = v' := by rw [← hv', widX, hv, hww]
      have HN := Lib.hid hv'
      rw [hv]
      clear hat hww hv hv'
      go_wp2_with fail
      go_roundw
      case rel => exact ⟨i + 1, by omega, by go_num, by rw [HN.out], by first | rfl | trivial⟩
      case measure => simp [intOf]; omega
    · obtain rfl : i = l.length := by omega
      obtain ⟨tw, htw⟩ : ∃ tw, widX l l.length = tw := ⟨_, rfl⟩
      obtain ⟨rr, hrr⟩ : ∃ rr, sprR l wd = rr := ⟨_, rfl⟩
      have sr : IntKind.i64.wrap (wd - tw) = rr := by rw [← hrr, sprR, htw]
      have HTW := Lib.hid (And.intro htw hrr)
      rw [htw]
      have hsp := hspread_any A l c B gs d wd wr HCN.out HL.out.2 (HK.out.1.next HB4.out) (HK.out.2.next HB4.out)
      rw [HFP.out.err, HFP.out.box, HGL.out] at hsp
      have HSP := Lib.hid hsp
      obtain ⟨rs, hrs⟩ : ∃ rs, Gu.setR gs (sprR l wd) = rs := ⟨_, rfl⟩
      obtain ⟨S, hS⟩ : ∃ S, sprS l gs wd = S := ⟨_, rfl⟩
      have hf1 := HFP.out.len
      have hf2 := HFP.out.rest
      have hf3 := HFP.out.last
      rw [hS] at hf1 hf3
      rw [hrs] at hf2 hf3
      rw [hrs, hS] at HSP
      have HFF := Lib.hid (And.intro hf1 (And.intro hf2 hf3))
      have s2 : IntKind.i64.wrap (wd - rs) = wd - rs := IntWalk.i64_in _ (by omega)
      have HRS := Lib.hid (And.intro hrs hS)
      clear htw hrr hsp hrs hS hf1 hf2 hf3
      go_wp2_with fail
      refine HSP.out.mono ?_
      rintro e w5 hp5
      obtain ⟨A5, c5, rfl, hk5, hb5⟩ := hp5.now
      have hk5' : Kids w5 0 w5.heap.size A5 (movedX l (plX l (lAt S))) := hk5
      have HK5 := Lib.hid hk5'
      obtain ⟨R, hR⟩ : ∃ R, rowB l (plX l (lAt S)) (wd - rs) = R := ⟨_, rfl⟩
      have hRw : R.w = wd - rs := by rw [← hR]; rfl
      have hRk : R.kids.length = l.length := by rw [← hR]; exact movedX_len _ _
      rw [hR]
      obtain ⟨w6, hw6⟩ : ∃ w6, w5.alloc (.cells (bxA R A5 c5 none 0) 28) = w6 := ⟨_, rfl⟩
      have HB6 : Hid (Below w.heap.size w w6) := by rw [← hw6]; exact below_next HB4.out (below_next hb5 (one_below _ _))
      have HN6 : Hid (w6.heap[w5.heap.size]? = some (.cells (bxA R A5 c5 none 0) 28 (0, 0))) := by rw [← hw6]; exact blk_new _ _
      have HB56 : Hid (Below w5.heap.size w5 w6) := by rw [← hw6]; exact one_below _ _
      have HRR := Lib.hid (And.intro hRw hRk)
      obtain ⟨p, hp⟩ : ∃ p, w5.heap.size = p := ⟨_, rfl⟩
      rw [hp] at HN6
      clear hk5 hk5' hb5 hp5 hRw hRk hR
      go_wp2_with fail
      have hset := Gu.rset_any B d gs rr w6 HL.out.2 (HK.out.2.next HB6.out)
      rw [HGL.out] at hset
      refine hset.mono ?_
      rintro e w7 ⟨⟨AS, cS, rfl, hIS⟩, hbS⟩
      have hIS' := gints hIS
      have hSd : Gu.setL gs rr = S := by rw [← HRS.out.2, sprS, HTW.out.2]
      have hRd : Gu.setR gs rr = rs := by rw [← HRS.out.1, HTW.out.2]
      have hEd := HFP.out.set
      rw [HTW.out.2] at hEd
      rw [hSd] at hIS' ⊢
      rw [hRd, hEd, HFF.out.1]
      have HIS := Lib.hid hIS'
      have HB7 := Lib.hid (below_next HB6.out hbS)
      have HN7 : Hid (w7.heap[p]? = some (.cells (bxA R A5 c5 none 0) 28 (0, 0))) := (hbS.block _ (Array.getElem?_eq_some_iff.1 HN6.out).1).trans HN6.out
      have HK7 : Hid (Kids w7 0 w7.heap.size A5 (movedX l (plX l (lAt S)))) := (HK5.out.next HB56.out).next hbS
      have HX : Hid (∀ W : World, W.heap[p]? = some (.cells (bxA R A5 c5 none 0) 28 (0, 0)) → W.cell? ⟨p, 8, none⟩ = some (.slice A5 l.length c5) ∧ W.cell? ⟨p, 3, none⟩ = some (.int .i64 (wd - rs))) := fun W hW => by
        rw [← HRR.out.2, ← HRR.out.1]
        exact ⟨blk_cell hW 8 _ rfl, blk_cell hW 3 _ rfl⟩
      obtain ⟨x8, x3⟩ := HX.out w7 HN7.out
      clear hset hIS hIS' hbS hSd hRd hEd
      go_wp2_with fail
      clear x8 x3
      go_loopw [14, 15] (fun v q wy => ∃ k : Nat, k ≤ l.length ∧ q = .int .i64 (k : Int) ∧ v = .int .i64 (endX l (lAt S) k) ∧ Below w7.heap.size w7 wy) (fun _ q _ => l.length - (intOf q).toNat)
      case atStart => exact ⟨0, Nat.zero_le _, rfl, rfl, Below.refl _ _⟩
      case round =>
        rename World => wy
        obtain ⟨k, hk, rfl, rfl, hby⟩ := hrel
        have HBY := Lib.hid hby
        obtain ⟨x8, x3⟩ := HX.out wy ((hby.block _ (Array.getElem?_eq_some_iff.1 HN7.out).1).trans HN7.out)
        clear hby
        by_cases hkt : k < l.length
        · obtain ⟨gb, go, rfl, _, hgb, hgc⟩ := HIS.out (by have := HFF.out.1; omega)
          obtain ⟨kb, ko, A1, c1', A2, c2', rfl, _, hkb, hat, -⟩ := HK7.out.at (i := k) (by rw [movedX_len]; exact hkt)
          rw [movedX_at hkt] at hat
          obtain ⟨ob, oo, A3, c3, A4, c4, rfl, _, hob, hat2, -⟩ := HK.out.1.at hkt
          obtain ⟨e0, he0⟩ : ∃ e0, endX l (lAt S) k = e0 := ⟨_, rfl⟩
          obtain ⟨px, hpx⟩ : ∃ px, plX l (lAt S) k = px := ⟨_, rfl⟩
          obtain ⟨e1, he1⟩ : ∃ e1, endX l (lAt S) (k + 1) = e1 := ⟨_, rfl⟩
          obtain ⟨sp, hsp⟩ : ∃ sp, lAt S k = sp := ⟨_, rfl⟩
          obtain ⟨ww, hww⟩ : ∃ ww, (kidAt l k).w = ww := ⟨_, rfl⟩
          have yg : wy.cell? ⟨gb, go + k, none⟩ = some (.int .i64 sp) := by rw [← hsp]; exact (HBY.out.cell (p := ⟨gb, go + k, none⟩) hgb).trans (hgc k (by have := HFF.out.1; omega))
          have yk : wy.cell? ⟨kb, ko + k * 11 + 6, none⟩ = some (.int .i64 px) := by rw [← hpx]; exact (HBY.out.cell (p := ⟨kb, ko + k * 11 + 6, none⟩) hkb).trans (hat 6 (by omega))
          have yw : wy.cell? ⟨ob, oo + k * 11 + 3, none⟩ = some (.int .i64 ww) := by rw [← hww]; exact ((below_next HB7.out HBY.out).cell (p := ⟨ob, oo + k * 11 + 3, none⟩) hob).trans (hat2 3 (by omega))
          have s3 : IntKind.i64.wrap (e0 + sp) = px := by rw [← hpx, plX, he0, hsp]
          have s4 : IntKind.i64.wrap (px + ww) = e1 := by rw [← he1, endX_s, hpx, hww]
          have HE1 := Lib.hid he1
          have hk1 : k < l.length + 1 := by omega
          rw [he0]
          clear hat hat2 hgc he0 hpx he1 hsp hww
          go_wp2_with fail
          go_quiet (fail)
          go_wp2_with fail
          go_quiet (fail)
          go_wp2_with fail
          go_roundw
          case rel => exact ⟨k + 1, by omega, by go_num, by rw [HE1.out], below_drewN HBY.out _⟩
          case measure => simp [intOf]; omega
        · obtain rfl : k = l.length := by omega
          obtain ⟨gb, go, rfl, _, hgb, hgc⟩ := HIS.out (by have := HFF.out.1; omega)
          obtain ⟨e0, he0⟩ : ∃ e0, endX l (lAt S) l.length = e0 := ⟨_, rfl⟩
          obtain ⟨sp, hsp⟩ : ∃ sp, lAt S l.length = sp := ⟨_, rfl⟩
          have yg : wy.cell? ⟨gb, go + l.length, none⟩ = some (.int .i64 sp) := by rw [← hsp]; exact (HBY.out.cell (p := ⟨gb, go + l.length, none⟩) hgb).trans (hgc l.length (by have := HFF.out.1; omega))
          have s3 : IntKind.i64.wrap (e0 + sp) = wd - rs := by rw [← he0, ← hsp]; exact HFF.out.2.2
          have hk1 : l.length < l.length + 1 := by omega
          rw [he0]
          have HFIN := Lib.hid (below_next HB7.out HBY.out)
          clear hgc he0 hsp
          go_wp2_with fail
          go_quiet (fail)
          go_wp2
          go_ret
          exact ⟨rfl, below_drewN HFIN.out _⟩
end Go.Proofs.Ytjckbdbjcgjcaaa
