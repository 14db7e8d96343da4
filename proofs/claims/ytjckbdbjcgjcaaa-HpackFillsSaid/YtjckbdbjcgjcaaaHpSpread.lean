/- Spread: plain words, and the program's: the walk. Printed by a program (gen_spread.py). -/
import Derived.Test.YtjckbdbjcgjcaaaHpRRow
import Derived.Test.YtjckbdbjcgjcaaaGluSetAll
namespace Go.Proofs.Ytjckbdbjcgjcaaa
open Go.RowKit
theorem gints {w : World} {B : Nat} {A : Option Addr} {l : List Int} (h : Gu.Ints w B A l) : Ints w 0 B A l := fun h0 => by
  obtain ⟨b, off, rfl, hB, hc⟩ := h h0
  exact ⟨b, off, rfl, Nat.zero_le _, hB, hc⟩
def sprR (l : List Bx) (wd : Int) : Int := IntKind.i64.wrap (wd - widX l l.length)
def sprS (l : List Bx) (gs : List Gu.Gl) (wd : Int) : List Int := Gu.setL gs (sprR l wd)
def sprOk (l : List Bx) (gs : List Gu.Gl) (wd : Int) : Prop := gs.length = l.length + 1 ∧ rngL wd ∧ rngL (sprR l wd)
def sprV (l : List Bx) (gs : List Gu.Gl) : Prop := allV l ∧ Gu.VG gs
open Classical in
noncomputable def sprE (l : List Bx) (gs : List Gu.Gl) (wd : Int) : Int := if sprV l gs then (if sprOk l gs wd then putE l (plX l (lAt (sprS l gs wd))) (spW l (sprS l gs wd) (l.length + 1)) else 2) else 1
open Classical in
noncomputable def sprB (l : List Bx) (gs : List Gu.Gl) (wd : Int) : Bx := if sprV l gs then (if sprOk l gs wd then putR l (plX l (lAt (sprS l gs wd))) (spW l (sprS l gs wd) (l.length + 1)) else zeroBx) else zeroBx
theorem spr_1 {l : List Bx} {gs : List Gu.Gl} {wd : Int} (h : ¬ sprV l gs) : sprE l gs wd = 1 ∧ sprB l gs wd = zeroBx := ⟨by unfold sprE; rw [if_neg h], by unfold sprB; rw [if_neg h]⟩
theorem spr_2 {l : List Bx} {gs : List Gu.Gl} {wd : Int} (h : sprV l gs) (h2 : ¬ sprOk l gs wd) : sprE l gs wd = 2 ∧ sprB l gs wd = zeroBx := ⟨by unfold sprE; rw [if_pos h, if_neg h2], by unfold sprB; rw [if_pos h, if_neg h2]⟩
theorem spr_3 {l : List Bx} {gs : List Gu.Gl} {wd : Int} (h : sprV l gs) (h2 : sprOk l gs wd) : sprE l gs wd = putE l (plX l (lAt (sprS l gs wd))) (spW l (sprS l gs wd) (l.length + 1)) ∧ sprB l gs wd = putR l (plX l (lAt (sprS l gs wd))) (spW l (sprS l gs wd) (l.length + 1)) := ⟨by unfold sprE; rw [if_pos h, if_pos h2], by unfold sprB; rw [if_pos h, if_pos h2]⟩
theorem sprS_len {l : List Bx} {gs : List Gu.Gl} {wd : Int} (h : sprV l gs) (h2 : sprOk l gs wd) : (sprS l gs wd).length = l.length + 1 ∧ Gu.errV gs (sprR l wd) = 0 := by
  obtain ⟨h3, _, h4⟩ := Gu.setAns_ok (l := gs) (wd := sprR l wd) ⟨h.2, h2.2.2⟩
  exact ⟨by unfold sprS; rw [h3, Gu.mapN_len, h2.1], h4⟩
set_option maxRecDepth 100000 in
set_option maxHeartbeats 3000000 in
theorem hspread_any (A : Option Addr) (l : List Bx) (c : Nat) (B : Option Addr) (gs : List Gu.Gl) (d : Nat) (wd : Int) (w : World) (hc : cntL l ≤ 1000) (hg : gs.length ≤ lenMax) (hK : Kids w 0 w.heap.size A l) (hI : Gu.Gls w w.heap.size B gs) :
    Calls Try.prog 12 #[.slice A l.length c, .slice B gs.length d, .int .i64 wd] w (PPost w.heap.size (sprB l gs wd) (sprE l gs wd) w) := by
  obtain ⟨i1, hi1, hy0, hy1, hy2⟩ := info_parts infoBox
  have HCN := Lib.hid hc
  have hl : l.length ≤ 1000 := by have := cnt_len l; omega
  have hg' : gs.length ≤ 9223372036854775807 := hg
  have HK := Lib.hid (And.intro hK (And.intro hI hg))
  obtain ⟨v, hv⟩ := bool_of (allV l)
  obtain ⟨v', hv'⟩ := bool_of (Gu.VG gs)
  have HV := Lib.hid hv
  have HV' := Lib.hid hv'
  clear hc hg hK hI hv hv'
  go_enter Try.func12, Try.ntmps12
  go_wp2_with fail
  have d0 := blk_new w (.cells zeroBox 28)
  have hb := one_below w (.cells zeroBox 28)
  refine (hvalid_any A l c (w.alloc (.cells zeroBox 28)) HV.out HCN.out (HK.out.1.next hb)).mono ?_
  rintro e w1 ⟨rfl, hb1⟩
  have HZ := Lib.hid ((hb1.block w.heap.size (by simp)).trans d0)
  have HB1 := Lib.hid (below_next hb hb1)
  clear hb1 d0 hb
  cases v with
  | false =>
    go_wp2_with ((with_reducible refine at_store 28 ?_); go_loud (refine wpList_store_all i1 11 hi1 hy1 rfl rfl rfl HZ.out (by decide) (bxA_one zeroBx none 0 none 0) ?_); rw [row_all _ _ rfl rfl])
    refine bodyPost_ret (results_cell_tmp rfl _ i1 11 hi1 hy1 _ Try.underlying28 rfl rfl (fun j _ => by rw [Nat.zero_add]; exact cell_setRow_same _ _ _ _ _ _ _ HZ.out)) rfl ?_
    exact PPost.zero (spr_1 fun h => by have := HV.out.2 h.1; simp at this) (below_setRow HB1.out (Nat.le_refl _) _)
  | true =>
    have HAV : Hid (allV l) := HV.out.1 rfl
    clear HV
    go_wp2_with fail
    refine (Gu.gvalid_any B d gs w1 HK.out.2.2 (HK.out.2.1.next HB1.out) HV'.out).mono ?_
    rintro e w2 ⟨rfl, hb2⟩
    have HZ2 := Lib.hid ((hb2.block w.heap.size (Array.getElem?_eq_some_iff.1 HZ.out).1).trans HZ.out)
    have HB2 := Lib.hid (below_next HB1.out hb2)
    clear hb2 HZ HB1
    cases v' with
    | false =>
      go_wp2_with ((with_reducible refine at_store 28 ?_); go_loud (refine wpList_store_all i1 11 hi1 hy1 rfl rfl rfl HZ2.out (by decide) (bxA_one zeroBx none 0 none 0) ?_); rw [row_all _ _ rfl rfl])
      refine bodyPost_ret (results_cell_tmp rfl _ i1 11 hi1 hy1 _ Try.underlying28 rfl rfl (fun j _ => by rw [Nat.zero_add]; exact cell_setRow_same _ _ _ _ _ _ _ HZ2.out)) rfl ?_
      exact PPost.zero (spr_1 fun h => by have := HV'.out.2 h.2; simp at this) (below_setRow HB2.out (Nat.le_refl _) _)
    | true =>
      have HGV : Hid (Gu.VG gs) := HV'.out.1 rfl
      clear HV'
      go_wp2_with fail
      go_loopw [8, 29] (fun v q wr => ∃ i : Nat, i ≤ l.length ∧ q = .int .i64 (i : Int) ∧ v = .int .i64 (widX l i) ∧ Below w2.heap.size w2 wr) (fun _ q _ => l.length - (intOf q).toNat)
      case atStart => exact ⟨0, Nat.zero_le _, rfl, rfl, Below.refl _ _⟩
      case round =>
        obtain ⟨i, hi, rfl, rfl, hbw⟩ := hrel
        have HB := Lib.hid hbw
        clear hbw
        by_cases hlt : i < l.length
        · obtain ⟨kb, ko, A1, c1, A2, c2, rfl, _, hkb, hat, -⟩ := HK.out.1.at hlt
          obtain ⟨ww, hww⟩ : ∃ ww, (kidAt l i).w = ww := ⟨_, rfl⟩
          have y3 : wr.cell? ⟨kb, ko + i * 11 + 3, none⟩ = some (.int .i64 ww) := by rw [← hww]; exact ((below_next HB2.out HB.out).cell (p := ⟨kb, ko + i * 11 + 3, none⟩) hkb).trans (hat 3 (by omega))
          obtain ⟨v, hv⟩ : ∃ v, widX l i = v := ⟨_, rfl⟩
          obtain ⟨v', hv'⟩ : ∃ v', widX l (i + 1) = v' := ⟨_, rfl⟩
          have s1 : IntKind.i64.wrap (v + ww) = v' := by rw [← hv', widX, hv, hww]
          have HN := Lib.hid hv'
          rw [hv]
          clear hat hww hv hv'
          go_wp2_with fail
          go_roundw
          case rel => exact ⟨i + 1, by omega, by go_num, by rw [HN.out], HB.out⟩
          case measure => simp [intOf]; omega
        · obtain rfl : i = l.length := by omega
          have HBW : Hid (Below w.heap.size w wr) := below_next HB2.out HB.out
          have HZW : Hid (wr.heap[w.heap.size]? = some (.cells zeroBox 28 (0, 0))) := (HB.out.block _ (Array.getElem?_eq_some_iff.1 HZ2.out).1).trans HZ2.out
          obtain ⟨tw, htw⟩ : ∃ tw, widX l l.length = tw := ⟨_, rfl⟩
          obtain ⟨rr, hrr⟩ : ∃ rr, sprR l wd = rr := ⟨_, rfl⟩
          have sr : IntKind.i64.wrap (wd - tw) = rr := by rw [← hrr, sprR, htw]
          have HTW := Lib.hid (And.intro htw hrr)
          rw [htw]
          clear htw hrr
          have s0 : IntKind.i64.wrap ((l.length : Int) + 1) = (l.length : Int) + 1 := IntWalk.i64_in _ (by omega)
          by_cases hgl : gs.length = l.length + 1
          case neg =>
            have q0 : ¬ ((gs.length : Int) = (l.length : Int) + 1) := by omega
            have q1 : ((gs.length : Int) != (l.length : Int) + 1) = true := by simp; omega
            have HGL := Lib.hid hgl
            clear hgl
            go_wp2_with ((with_reducible refine at_store 28 ?_); go_loud (refine wpList_store_all i1 11 hi1 hy1 rfl rfl rfl HZW.out (by decide) (bxA_one zeroBx none 0 none 0) ?_); rw [row_all _ _ rfl rfl])
            refine bodyPost_ret (results_cell_tmp rfl _ i1 11 hi1 hy1 _ Try.underlying28 rfl rfl (fun j _ => by rw [Nat.zero_add]; exact cell_setRow_same _ _ _ _ _ _ _ HZW.out)) rfl ?_
            exact PPost.zero (spr_2 ⟨HAV.out, HGV.out⟩ fun h => HGL.out h.1) (below_setRow HBW.out (Nat.le_refl _) _)
          have hgi : (gs.length : Int) = (l.length : Int) + 1 := by omega
          have HGL := Lib.hid hgl
          clear hgl
          obtain ⟨v1, hv1⟩ := bool_of (rngL wd)
          obtain ⟨v2, hv2⟩ := bool_of (rngL rr)
          have HV1 := Lib.hid hv1
          have HV2 := Lib.hid hv2
          clear hv1 hv2
          go_wp2_with fail
          refine (lvalid_any wd wr HV1.out).mono ?_
          rintro e wa ⟨rfl, hwa⟩
          subst hwa
          cases v1 with
          | false =>
            go_wp2_with ((with_reducible refine at_store 28 ?_); go_loud (refine wpList_store_all i1 11 hi1 hy1 rfl rfl rfl HZW.out (by decide) (bxA_one zeroBx none 0 none 0) ?_); rw [row_all _ _ rfl rfl])
            refine bodyPost_ret (results_cell_tmp rfl _ i1 11 hi1 hy1 _ Try.underlying28 rfl rfl (fun j _ => by rw [Nat.zero_add]; exact cell_setRow_same _ _ _ _ _ _ _ HZW.out)) rfl ?_
            exact PPost.zero (spr_2 ⟨HAV.out, HGV.out⟩ fun h => by have h2 := HV1.out.2 h.2.1; simp at h2) (below_setRow HBW.out (Nat.le_refl _) _)
          | true =>
            have HW : Hid (rngL wd) := HV1.out.1 rfl
            clear HV1
            go_wp2_with fail
            refine (lvalid_any rr wa HV2.out).mono ?_
            rintro e wb ⟨rfl, hwb⟩
            subst hwb
            cases v2 with
            | false =>
              go_wp2_with ((with_reducible refine at_store 28 ?_); go_loud (refine wpList_store_all i1 11 hi1 hy1 rfl rfl rfl HZW.out (by decide) (bxA_one zeroBx none 0 none 0) ?_); rw [row_all _ _ rfl rfl])
              refine bodyPost_ret (results_cell_tmp rfl _ i1 11 hi1 hy1 _ Try.underlying28 rfl rfl (fun j _ => by rw [Nat.zero_add]; exact cell_setRow_same _ _ _ _ _ _ _ HZW.out)) rfl ?_
              exact PPost.zero (spr_2 ⟨HAV.out, HGV.out⟩ fun h => by have h2 := HV2.out.2 (by rw [← HTW.out.2]; exact h.2.2); simp at h2) (below_setRow HBW.out (Nat.le_refl _) _)
            | true =>
              have HRR : Hid (rngL rr) := HV2.out.1 rfl
              clear HV2
              have HOK : Hid (sprOk l gs wd) := ⟨HGL.out, HW.out, by rw [HTW.out.2]; exact HRR.out⟩
              have HSL := Lib.hid (sprS_len ⟨HAV.out, HGV.out⟩ HOK.out)
              have HPE := Lib.hid (spr_3 ⟨HAV.out, HGV.out⟩ HOK.out)
              have HSS : Hid (sprS l gs wd = Gu.setL gs rr) := by show _ = _; rw [sprS, HTW.out.2]
              go_wp2_with fail
              refine (Gu.gset_any B d gs rr wb HK.out.2.2 (HK.out.2.1.next HBW.out)).mono ?_
              rintro e w1 ⟨⟨AS, cS, rfl, hIS⟩, hbS⟩
              have hIS' := gints hIS
              rw [← HSS.out] at hIS' ⊢
              obtain ⟨er, her⟩ : ∃ er, Gu.setR gs rr = er := ⟨_, rfl⟩
              have hee := HSL.out.2
              rw [HTW.out.2] at hee
              rw [her, hee, HSL.out.1]
              have HIS := Lib.hid hIS'
              have HB1 := Lib.hid (below_next HBW.out hbS)
              have HZ : Hid (w1.heap[w.heap.size]? = some (.cells zeroBox 28 (0, 0))) := (hbS.block _ (Array.getElem?_eq_some_iff.1 HZW.out).1).trans HZW.out
              clear hIS hIS' hbS her hee
              have hmk := make_ints l.length (by omega)
              have d1 := blk_new w1 (.cells (madeCells #[.int .i64 0] l.length) 3)
              go_wp2_with fail
              refine (mover_any (w1.alloc (.cells (madeCells #[.int .i64 0] l.length) 3))).mono ?_
              rintro e w2 ⟨rfl, hw2⟩
              have d2 := blk_more d1 (.cells #[.int .i64 0] 3)
              have d3 := blk_new (w1.alloc (.cells (madeCells #[.int .i64 0] l.length) 3)) (.cells #[.int .i64 0] 3)
              have hb2 := two_below w1 (.cells (madeCells #[.int .i64 0] l.length) 3) (.cells #[.int .i64 0] 3)
              rw [← hw2] at d2 d3 hb2
              rw [World.size_alloc] at d3 ⊢
              obtain ⟨S, hS⟩ : ∃ S, sprS l gs wd = S := ⟨_, rfl⟩
              rw [hS] at HSL HPE HIS
              have HS0 : Hid (RowS l (lAt S) w1.heap.size 0 w1 w2) := ⟨⟨_, d2, size_madeCells _ _, fun k hk => absurd hk (Nat.not_lt_zero _)⟩, d3, hb2⟩
              clear hw2 d1 d2 d3 hb2 hmk HSS hS
              go_wp2_with fail
              go_loopw [78] (fun q wx => ∃ i : Nat, i ≤ l.length ∧ q = .int .i64 (i : Int) ∧ RowS l (lAt S) w1.heap.size i w1 wx) (fun q _ => l.length - (intOf q).toNat)
              case atStart => exact ⟨0, Nat.zero_le _, rfl, HS0.out⟩
              case round =>
                rename World => wx
                obtain ⟨i, hi, rfl, hrs⟩ := hrel
                have HR := Lib.hid hrs
                have HBX : Hid (Below w.heap.size w wx) := below_next HB1.out hrs.bel
                clear hrs
                by_cases hlt : i < l.length
                · obtain ⟨kb, ko, A1, c1, A2, c2, rfl, _, hkb, hat, -⟩ := HK.out.1.at hlt
                  obtain ⟨gb, go, rfl, _, hgb, hgc⟩ := HIS.out (by have := HSL.out.1; omega)
                  obtain ⟨sp, hsp⟩ : ∃ sp, lAt S i = sp := ⟨_, rfl⟩
                  have yg : wx.cell? ⟨gb, go + i, none⟩ = some (.int .i64 sp) := by rw [← hsp]; exact (HR.out.bel.cell (p := ⟨gb, go + i, none⟩) hgb).trans (hgc i (by have := HSL.out.1; omega))
                  obtain ⟨ww, hww⟩ : ∃ ww, (kidAt l i).w = ww := ⟨_, rfl⟩
                  have y3 : wx.cell? ⟨kb, ko + i * 11 + 3, none⟩ = some (.int .i64 ww) := by rw [← hww]; exact (HBX.out.cell (p := ⟨kb, ko + i * 11 + 3, none⟩) hkb).trans (hat 3 (by omega))
                  have HSP := Lib.hid (And.intro hsp hww)
                  clear hsp hww hat hgc
                  obtain ⟨e0, he0⟩ : ∃ e0, endX l (lAt S) i = e0 := ⟨_, rfl⟩
                  obtain ⟨x, hx⟩ : ∃ x, plX l (lAt S) i = x := ⟨_, rfl⟩
                  obtain ⟨y, hy⟩ : ∃ y, endX l (lAt S) (i + 1) = y := ⟨_, rfl⟩
                  have hsx : IntKind.i64.wrap (e0 + sp) = x := by rw [← hx, plX, he0, HSP.out.1]
                  have hsy : IntKind.i64.wrap (x + ww) = y := by rw [← hy, endX_s, hx, HSP.out.2]
                  have hcl := HR.out.cell
                  rw [he0] at hcl
                  have HMV : Hid (Calls Try.prog 58 #[.int .i64 sp, .int .i64 ww, .pointer (some ⟨w1.heap.size + 1, 0, none⟩)] wx.drew fun e w' => e = .returned (.int .i64 x) ∧ w' = wx.drew.setCell ⟨w1.heap.size + 1, 0, none⟩ (.int .i64 y)) := move_any (w1.heap.size + 1) e0 sp ww x y wx.drew hcl hsx hsy
                  obtain ⟨cs, hcs, hcz, _⟩ := HR.out.row
                  have hd1 := blk_far (W := wx) hcs (p := ⟨w1.heap.size + 1, 0, none⟩) (by show w1.heap.size ≠ w1.heap.size + 1; omega) (.int .i64 y)
                  obtain ⟨uu, huu⟩ : ∃ uu, cs[i]? = some uu := ⟨_, Array.getElem?_eq_getElem (by omega)⟩
                  have zc := blk_cell hd1 i uu huu
                  have zf := blk_free hd1 i
                  have hin1 : i < l.length + 1 := by omega
                  have HXY := Lib.hid (And.intro hx (And.intro hy he0))
                  clear hsx hsy hcl hcs hcz hd1 hx hy he0 huu
                  go_wp2_with fail
                  go_region_with (go_at_call 58; refine HMV.out.mono ?_; rintro e w' ⟨rfl, rfl⟩)
                  all_goals
                    have HBN : Hid (Below w1.heap.size w1 (((wx.setCell ⟨w1.heap.size + 1, 0, none⟩ (.int .i64 y)).setCell ⟨w1.heap.size, i, none⟩ (.int .i64 x)).drew)) := ((HR.out.bel.setCell (p := ⟨w1.heap.size + 1, 0, none⟩) (by show _ ≤ w1.heap.size + 1; omega) _).setCell (p := ⟨w1.heap.size, i, none⟩) (Nat.le_refl _) _).drew
                    have HN : Hid (RowS l (lAt S) w1.heap.size (i + 1) w1 (((wx.setCell ⟨w1.heap.size + 1, 0, none⟩ (.int .i64 y)).setCell ⟨w1.heap.size, i, none⟩ (.int .i64 x)).drew)) := HR.out.next hlt x y HXY.out.1 HXY.out.2.1 rfl HBN.out
                    generalize ((wx.setCell ⟨w1.heap.size + 1, 0, none⟩ (.int .i64 y)).setCell ⟨w1.heap.size, i, none⟩ (.int .i64 x)).drew = w4 at HN ⊢
                    clear zc zf HBN HMV y3 yg
                    go_wp2_with fail
                    go_roundw
                    case rel => exact ⟨i + 1, by omega, by go_num, HN.out⟩
                    case measure => simp [intOf]; omega
                · obtain rfl : i = l.length := by omega
                  have HIX : Hid (Ints wx 0 wx.heap.size AS S) := HIS.out.next HR.out.bel
                  rw [← HTW.out.1]
                  go_wp2_with fail
                  rename World => wx2
                  go_loopw [8, 98] (fun v q wy => ∃ k : Nat, k ≤ l.length + 1 ∧ q = .int .i64 (k : Int) ∧ v = .int .i64 (spW l S k) ∧ wy = wx2) (fun _ q _ => l.length + 1 - (intOf q).toNat)
                  case atStart => exact ⟨0, Nat.zero_le _, rfl, rfl, rfl⟩
                  case round =>
                    obtain ⟨k, hk, rfl, rfl, hwy⟩ := hrel
                    subst hwy
                    by_cases hkt : k < l.length + 1
                    · obtain ⟨gb, go, rfl, _, hgb, hgc⟩ := HIX.out (by have := HSL.out.1; omega)
                      obtain ⟨sp, hsp⟩ : ∃ sp, lAt S k = sp := ⟨_, rfl⟩
                      have yg := hgc k (by have := HSL.out.1; omega)
                      rw [hsp] at yg
                      obtain ⟨v, hv⟩ : ∃ v, spW l S k = v := ⟨_, rfl⟩
                      obtain ⟨v', hv'⟩ : ∃ v', spW l S (k + 1) = v' := ⟨_, rfl⟩
                      have s1 : IntKind.i64.wrap (v + sp) = v' := by rw [← hv', spW, hv, hsp]
                      have HN := Lib.hid hv'
                      rw [hv]
                      clear hgc hsp hv hv'
                      go_wp2_with fail
                      go_roundw
                      case rel => exact ⟨k + 1, by omega, by go_num, by rw [HN.out], by first | rfl | trivial⟩
                      case measure => simp [intOf]; omega
                    · obtain rfl : k = l.length + 1 := by omega
                      have hpc := put_congr (l := l) (P := lAt (plL l (lAt S) l.length)) (P' := plX l (lAt S)) (spW l S (l.length + 1)) fun i hi => plL_at hi
                      have HPC : Hid (sprE l gs wd = putE l (lAt (plL l (lAt S) l.length)) (spW l S (l.length + 1)) ∧ sprB l gs wd = putR l (lAt (plL l (lAt S) l.length)) (spW l S (l.length + 1))) := ⟨by rw [hpc.1]; exact HPE.out.1, by rw [hpc.2]; exact HPE.out.2⟩
                      clear hpc
                      rename World => wy
                      go_wp2_with fail
                      refine (hlist_any w.heap.size A l c (some ⟨w1.heap.size, 0, none⟩) (plL l (lAt S) l.length) l.length (spW l S (l.length + 1)) wy HCN.out HAV.out (plL_len _ _ _) (HK.out.1.next HBX.out) HR.out.ints).mono ?_
                      rintro e w5 hp5
                      have hws : w.heap.size < w1.heap.size := (Array.getElem?_eq_some_iff.1 HZ.out).1
                      have hws2 := HR.out.bel.size
                      obtain ⟨A2, c2, rfl, hz5, hp6⟩ := PPost.up (w := w) hp5 (Nat.le_refl _) (by omega) rfl (below_next HBX.out hp5.2) ((hp5.2.block _ (by omega)).trans ((HR.out.bel.block _ hws).trans HZ.out))
                      rw [← HPC.out.1, ← HPC.out.2] at hp6 ⊢
                      have HP6 := Lib.hid hp6
                      have HZ5 := Lib.hid hz5
                      clear hp5 hp6 hz5 hws hws2
                      go_wp2_with ((with_reducible refine at_store 28 ?_); go_loud (refine wpList_store_all i1 11 hi1 hy1 rfl rfl rfl HZ5.out (by decide) (bxA_one (sprB l gs wd) A2 c2 none 0) ?_); rw [row_all _ _ rfl rfl])
                      refine bodyPost_ret (results_cell_tmp rfl _ i1 11 hi1 hy1 _ Try.underlying28 rfl rfl (fun j _ => by rw [Nat.zero_add]; exact cell_setRow_same _ _ _ _ _ _ _ HZ5.out)) rfl ?_
                      exact HP6.out
end Go.Proofs.Ytjckbdbjcgjcaaa
