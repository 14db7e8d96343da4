/- hpack.Row: the walk. -/
import Derived.Test.YtjckbdbjcgjcaaaHpMove
import Derived.Test.YtjckbdbjcgjcaaaHpList
import Derived.Deep.RegionWith
namespace Go.Proofs.Ytjckbdbjcgjcaaa
open Go.RowKit
/-- Where kid number i ends, the spaces s ahead of the kids. -/
def endX (l : List Bx) (s : Nat → Int) : Nat → Int
  | 0 => 0
  | i + 1 => IntKind.i64.wrap (IntKind.i64.wrap (endX l s i + s i) + (kidAt l i).w)
def plX (l : List Bx) (s : Nat → Int) (i : Nat) : Int := IntKind.i64.wrap (endX l s i + s i)
theorem endX_s (l : List Bx) (s : Nat → Int) (i : Nat) : endX l s (i + 1) = IntKind.i64.wrap (plX l s i + (kidAt l i).w) := rfl
def gapsOk (g : List Int) : Prop := ∀ k, k < g.length → rngL (lAt g k)
def spcOk (l : List Bx) (g : List Int) : Prop := g.length = l.length ∧ gapsOk g
open Classical in
noncomputable def rowE (l : List Bx) (g : List Int) : Int := if allV l then (if spcOk l g then putE l (plX l (lAt g)) (endX l (lAt g) l.length) else 2) else 1
open Classical in
noncomputable def rowR (l : List Bx) (g : List Int) : Bx := if allV l then (if spcOk l g then putR l (plX l (lAt g)) (endX l (lAt g) l.length) else zeroBx) else zeroBx
theorem row_1 {l : List Bx} {g : List Int} (h : ¬ allV l) : rowE l g = 1 ∧ rowR l g = zeroBx := ⟨by unfold rowE; rw [if_neg h], by unfold rowR; rw [if_neg h]⟩
theorem row_2 {l : List Bx} {g : List Int} (h : allV l) (h2 : ¬ spcOk l g) : rowE l g = 2 ∧ rowR l g = zeroBx := ⟨by unfold rowE; rw [if_pos h, if_neg h2], by unfold rowR; rw [if_pos h, if_neg h2]⟩
theorem row_3 {l : List Bx} {g : List Int} (h : allV l) (h2 : spcOk l g) : rowE l g = putE l (plX l (lAt g)) (endX l (lAt g) l.length) ∧ rowR l g = putR l (plX l (lAt g)) (endX l (lAt g) l.length) := ⟨by unfold rowE; rw [if_pos h, if_pos h2], by unfold rowR; rw [if_pos h, if_pos h2]⟩
theorem movedX_congr {l : List Bx} {P P' : Nat → Int} (h : ∀ i, i < l.length → P i = P' i) : movedX l P = movedX l P' := by
  unfold movedX
  refine List.map_congr_left fun i hi => ?_
  rw [h i (List.mem_range.1 hi)]
theorem put_congr {l : List Bx} {P P' : Nat → Int} (W : Int) (h : ∀ i, i < l.length → P i = P' i) : putE l P W = putE l P' W ∧ putR l P W = putR l P' W := by
  have e : rowB l P W = rowB l P' W := by unfold rowB; rw [movedX_congr h]
  exact ⟨by unfold putE; rw [e], by unfold putR; rw [e]⟩
/-- The places as a list. -/
def plL (l : List Bx) (s : Nat → Int) (n : Nat) : List Int := (List.range n).map (plX l s)
theorem plL_len (l : List Bx) (s : Nat → Int) (n : Nat) : (plL l s n).length = n := by simp [plL]
theorem plL_at {l : List Bx} {s : Nat → Int} {n i : Nat} (h : i < n) : lAt (plL l s n) i = plX l s i := by
  unfold lAt plL
  simp [List.getD, h]
/-- The memory of Row under work: the places, and where the last kid ends. -/
structure RowS (l : List Bx) (s : Nat → Int) (b i : Nat) (w W : World) : Prop where
  row : ∃ cs, W.heap[b]? = some (.cells cs 3 (0, 0)) ∧ cs.size = l.length ∧ ∀ k, k < i → cs[k]? = some (.int .i64 (plX l s k))
  cell : W.heap[b + 1]? = some (.cells #[.int .i64 (endX l s i)] 3 (0, 0))
  bel : Below b w W
theorem RowS.next {l : List Bx} {s : Nat → Int} {b i : Nat} {w W W' : World} (h : RowS l s b i w W) (hi : i < l.length) (x y : Int) (hx : plX l s i = x) (hy : endX l s (i + 1) = y) (hb : W'.heap = ((W.setCell ⟨b + 1, 0, none⟩ (.int .i64 y)).setCell ⟨b, i, none⟩ (.int .i64 x)).heap) (hbl : Below b w W') : RowS l s b (i + 1) w W' := by
  obtain ⟨cs, h1, h2, h3⟩ := h.row
  refine ⟨⟨cs.setIfInBounds i (.int .i64 x), ?_, by simpa using h2, fun k hk => ?_⟩, ?_, hbl⟩
  · rw [hb]
    exact blk_set (blk_far h1 (p := ⟨b + 1, 0, none⟩) (by show b ≠ b + 1; omega) _) i _
  · by_cases e : k = i
    · subst e
      rw [Array.getElem?_setIfInBounds_self_of_lt (by omega), hx]
    · rw [Array.getElem?_setIfInBounds_ne (by omega)]
      exact h3 k (by omega)
  · rw [hb, hy]
    have := blk_set h.cell 0 (.int .i64 y)
    exact blk_far this (p := ⟨b, i, none⟩) (by show b + 1 ≠ b; omega) _
theorem RowS.ints {l : List Bx} {s : Nat → Int} {b : Nat} {w W : World} (h : RowS l s b l.length w W) : Ints W 0 W.heap.size (some ⟨b, 0, none⟩) (plL l s l.length) := fun h0 => by
  obtain ⟨cs, h1, h2, h3⟩ := h.row
  refine ⟨b, 0, rfl, Nat.zero_le _, (Array.getElem?_eq_some_iff.1 h1).1, fun k hk => ?_⟩
  rw [plL_len] at hk
  rw [Nat.zero_add, plL_at hk]
  exact blk_cell h1 k _ (h3 k hk)
set_option maxRecDepth 100000 in
set_option maxHeartbeats 2000000 in
theorem hrow_any (A : Option Addr) (l : List Bx) (c : Nat) (B : Option Addr) (g : List Int) (d : Nat) (w : World) (hc : cntL l ≤ 1000) (hg : g.length ≤ lenMax) (hK : Kids w 0 w.heap.size A l) (hI : Ints w 0 w.heap.size B g) :
    Calls Try.prog 18 #[.slice A l.length c, .slice B g.length d] w (PPost w.heap.size (rowR l g) (rowE l g) w) := by
  obtain ⟨i1, hi1, hy0, hy1, hy2⟩ := info_parts infoBox
  have HCN := Lib.hid hc
  have hl : l.length ≤ 1000 := by have := cnt_len l; omega
  have hg' : g.length ≤ 9223372036854775807 := hg
  have HK := Lib.hid (And.intro hK hI)
  obtain ⟨v, hv⟩ := bool_of (allV l)
  have HV := Lib.hid hv
  clear hc hg hK hI hv
  go_enter Try.func18, Try.ntmps18
  go_wp2_with fail
  have d0 := blk_new w (.cells zeroBox 28)
  have hb := one_below w (.cells zeroBox 28)
  refine (hvalid_any A l c (w.alloc (.cells zeroBox 28)) HV.out HCN.out (HK.out.1.next hb)).mono ?_
  rintro e w1 ⟨rfl, hb1⟩
  have HZ := Lib.hid ((hb1.block w.heap.size (by simp)).trans d0)
  have HB1 := Lib.hid (below_next hb hb1)
  clear hb1 d0 hb
  cases v with
  | false =>
    go_wp2_with ((with_reducible refine at_store 28 ?_); go_loud (refine wpList_store_all i1 11 hi1 hy1 rfl rfl rfl HZ.out (by decide) (bxA_one zeroBx none 0 none 0) ?_); rw [row_all _ _ rfl rfl])
    refine bodyPost_ret (results_cell_tmp rfl _ i1 11 hi1 hy1 _ Try.underlying28 rfl rfl (fun j _ => by rw [Nat.zero_add]; exact cell_setRow_same _ _ _ _ _ _ _ HZ.out)) rfl ?_
    exact PPost.zero (row_1 fun h => by have := HV.out.2 h; simp at this) (below_setRow HB1.out (Nat.le_refl _) _)
  | true =>
    have HAV : Hid (allV l) := HV.out.1 rfl
    clear HV
    by_cases hgl : g.length = l.length
    case neg =>
      have q0 : ¬ ((g.length : Int) = (l.length : Int)) := by omega
      have q1 : ((g.length : Int) != (l.length : Int)) = true := by simp; omega
      have HGL := Lib.hid hgl
      clear hgl
      go_wp2_with ((with_reducible refine at_store 28 ?_); go_loud (refine wpList_store_all i1 11 hi1 hy1 rfl rfl rfl HZ.out (by decide) (bxA_one zeroBx none 0 none 0) ?_); rw [row_all _ _ rfl rfl])
      refine bodyPost_ret (results_cell_tmp rfl _ i1 11 hi1 hy1 _ Try.underlying28 rfl rfl (fun j _ => by rw [Nat.zero_add]; exact cell_setRow_same _ _ _ _ _ _ _ HZ.out)) rfl ?_
      exact PPost.zero (row_2 HAV.out fun h => HGL.out h.1) (below_setRow HB1.out (Nat.le_refl _) _)
    have HGL := Lib.hid hgl
    rw [hgl]
    clear hgl
    have hmk := make_ints l.length (by omega)
    have d1 := blk_new w1 (.cells (madeCells #[.int .i64 0] l.length) 3)
    go_wp2_with fail
    refine (mover_any (w1.alloc (.cells (madeCells #[.int .i64 0] l.length) 3))).mono ?_
    rintro e w2 ⟨rfl, hw2⟩
    have d2 := blk_more d1 (.cells #[.int .i64 0] 3)
    have d3 := blk_new (w1.alloc (.cells (madeCells #[.int .i64 0] l.length) 3)) (.cells #[.int .i64 0] 3)
    have hb2 := two_below w1 (.cells (madeCells #[.int .i64 0] l.length) 3) (.cells #[.int .i64 0] 3)
    rw [← hw2] at d2 d3 hb2
    rw [World.size_alloc] at d3 ⊢
    have HS0 : Hid (RowS l (lAt g) w1.heap.size 0 w1 w2) := ⟨⟨_, d2, size_madeCells _ _, fun k hk => absurd hk (Nat.not_lt_zero _)⟩, d3, hb2⟩
    clear hw2 d1 d2 d3 hb2 hmk
    go_wp2_with fail
    go_loopw [8, 26] (fun v q wr => ∃ i : Nat, i ≤ l.length ∧ q = .int .i64 (i : Int) ∧ v = .int .i64 (endX l (lAt g) i) ∧ (∀ k, k < i → rngL (lAt g k)) ∧ RowS l (lAt g) w1.heap.size i w1 wr) (fun _ q _ => l.length - (intOf q).toNat)
    case atStart => exact ⟨0, Nat.zero_le _, rfl, rfl, fun k hk => absurd hk (Nat.not_lt_zero _), HS0.out⟩
    case round =>
      obtain ⟨i, hi, rfl, rfl, hall, hrs⟩ := hrel
      have HALG := Lib.hid hall
      have HR := Lib.hid hrs
      have HBW : Hid (Below w.heap.size w wr) := below_next HB1.out hrs.bel
      clear hall hrs
      by_cases hlt : i < l.length
      · obtain ⟨kb, ko, A1, c1, A2, c2, rfl, _, hkb, hat, -⟩ := HK.out.1.at hlt
        obtain ⟨gb, go, rfl, _, hgb, hgc⟩ := HK.out.2 (by have := HGL.out; omega)
        obtain ⟨sp, hsp⟩ : ∃ sp, lAt g i = sp := ⟨_, rfl⟩
        have yg : wr.cell? ⟨gb, go + i, none⟩ = some (.int .i64 sp) := by rw [← hsp]; exact (HBW.out.cell (p := ⟨gb, go + i, none⟩) hgb).trans (hgc i (by have := HGL.out; omega))
        obtain ⟨ww, hww⟩ : ∃ ww, (kidAt l i).w = ww := ⟨_, rfl⟩
        have y3 : wr.cell? ⟨kb, ko + i * 11 + 3, none⟩ = some (.int .i64 ww) := by rw [← hww]; exact (HBW.out.cell (p := ⟨kb, ko + i * 11 + 3, none⟩) hkb).trans (hat 3 (by omega))
        obtain ⟨r, hr⟩ := bool_of (rngL sp)
        have HR2 := Lib.hid hr
        have HSP := Lib.hid (And.intro hsp hww)
        clear hr hsp hww hat hgc
        go_wp2_with fail
        refine (lvalid_any sp _ HR2.out).mono ?_
        rintro e w3 ⟨rfl, hw3⟩
        subst hw3
        cases r with
        | false =>
          have D6 : Hid (w3.heap[w.heap.size]? = some (.cells zeroBox 28 (0, 0))) := (HR.out.bel.block _ (Array.getElem?_eq_some_iff.1 HZ.out).1).trans HZ.out
          go_wp2_with ((with_reducible refine at_store 28 ?_); go_loud (refine wpList_store_all i1 11 hi1 hy1 rfl rfl rfl D6.out (by decide) (bxA_one zeroBx none 0 none 0) ?_); rw [row_all _ _ rfl rfl])
          refine bodyPost_ret (results_cell_tmp rfl _ i1 11 hi1 hy1 _ Try.underlying28 rfl rfl (fun j _ => by rw [Nat.zero_add]; exact cell_setRow_same _ _ _ _ _ _ _ D6.out)) rfl ?_
          exact PPost.zero (row_2 HAV.out fun h => by have h2 := HR2.out.2 (by rw [← HSP.out.1]; exact h.2 i (by have := HGL.out; omega)); simp at h2) (below_setRow HBW.out (Nat.le_refl _) _)
        | true =>
          have HVI : Hid (rngL sp) := HR2.out.1 rfl
          clear HR2
          obtain ⟨e0, he0⟩ : ∃ e0, endX l (lAt g) i = e0 := ⟨_, rfl⟩
          obtain ⟨x, hx⟩ : ∃ x, plX l (lAt g) i = x := ⟨_, rfl⟩
          obtain ⟨y, hy⟩ : ∃ y, endX l (lAt g) (i + 1) = y := ⟨_, rfl⟩
          have hsx : IntKind.i64.wrap (e0 + sp) = x := by rw [← hx, plX, he0, HSP.out.1]
          have hsy : IntKind.i64.wrap (x + ww) = y := by rw [← hy, endX_s, hx, HSP.out.2]
          have hcl := HR.out.cell
          rw [he0] at hcl
          have HMV : Hid (Calls Try.prog 58 #[.int .i64 sp, .int .i64 ww, .pointer (some ⟨w1.heap.size + 1, 0, none⟩)] w3.drew fun e w' => e = .returned (.int .i64 x) ∧ w' = w3.drew.setCell ⟨w1.heap.size + 1, 0, none⟩ (.int .i64 y)) := move_any (w1.heap.size + 1) e0 sp ww x y w3.drew hcl hsx hsy
          obtain ⟨cs, hcs, hcz, _⟩ := HR.out.row
          have hd1 := blk_far (W := w3) hcs (p := ⟨w1.heap.size + 1, 0, none⟩) (by show w1.heap.size ≠ w1.heap.size + 1; omega) (.int .i64 y)
          obtain ⟨uu, huu⟩ : ∃ uu, cs[i]? = some uu := ⟨_, Array.getElem?_eq_getElem (by omega)⟩
          have zc := blk_cell hd1 i uu huu
          have zf := blk_free hd1 i
          have HXY := Lib.hid (And.intro hx (And.intro hy he0))
          rw [he0]
          clear hsx hsy hcl hcs hcz hd1 hx hy he0 huu
          go_wp2_with fail
          go_region_with (go_at_call 58; refine HMV.out.mono ?_; rintro e w' ⟨rfl, rfl⟩)
          all_goals
            have HBN : Hid (Below w1.heap.size w1 (((w3.setCell ⟨w1.heap.size + 1, 0, none⟩ (.int .i64 y)).setCell ⟨w1.heap.size, i, none⟩ (.int .i64 x)).drew)) := ((HR.out.bel.setCell (p := ⟨w1.heap.size + 1, 0, none⟩) (by show _ ≤ w1.heap.size + 1; omega) _).setCell (p := ⟨w1.heap.size, i, none⟩) (Nat.le_refl _) _).drew
            have HN : Hid (RowS l (lAt g) w1.heap.size (i + 1) w1 (((w3.setCell ⟨w1.heap.size + 1, 0, none⟩ (.int .i64 y)).setCell ⟨w1.heap.size, i, none⟩ (.int .i64 x)).drew)) := HR.out.next hlt x y HXY.out.1 HXY.out.2.1 rfl HBN.out
            generalize ((w3.setCell ⟨w1.heap.size + 1, 0, none⟩ (.int .i64 y)).setCell ⟨w1.heap.size, i, none⟩ (.int .i64 x)).drew = w4 at HN ⊢
            clear zc zf HBN HMV
            have yk : w4.cell? ⟨kb, ko + i * 11 + 3, none⟩ = some (.int .i64 ww) := ((HR.out.bel.cell (p := ⟨kb, ko + i * 11 + 3, none⟩) (by have := HB1.out.size; show kb < _; omega)).symm.trans y3 |> (HN.out.bel.cell (p := ⟨kb, ko + i * 11 + 3, none⟩) (by have := HB1.out.size; show kb < _; omega)).trans)
            have yp : w4.cell? ⟨w1.heap.size, i, none⟩ = some (.int .i64 x) := by
              obtain ⟨cs, hcs, _, hck⟩ := HN.out.row
              rw [← HXY.out.1]
              exact blk_cell hcs i _ (hck i (by omega))
            have sy : IntKind.i64.wrap (x + ww) = y := by rw [← HXY.out.2.1, endX_s, HXY.out.1, HSP.out.2]
            clear y3 yg
            go_wp2_with fail
            go_quiet (fail)
            go_wp2_with fail
            go_roundw
            case rel => exact ⟨i + 1, by omega, by go_num, by rw [HXY.out.2.1], fun k hk => by
              rcases Nat.lt_succ_iff_lt_or_eq.1 hk with h | rfl
              · exact HALG.out k h
              · rw [HSP.out.1]; exact HVI.out, ⟨HN.out.row, HN.out.cell, below_drewN HN.out.bel _⟩⟩
            case measure => simp [intOf]; omega
      · obtain rfl : i = l.length := by omega
        have HOK : Hid (spcOk l g) := ⟨HGL.out, fun k hk => HALG.out k (by have := HGL.out; omega)⟩
        have hpe := row_3 HAV.out HOK.out
        have hpc := put_congr (l := l) (P := lAt (plL l (lAt g) l.length)) (P' := plX l (lAt g)) (endX l (lAt g) l.length) fun i hi => plL_at hi
        have HPE : Hid (rowE l g = putE l (lAt (plL l (lAt g) l.length)) (endX l (lAt g) l.length) ∧ rowR l g = putR l (lAt (plL l (lAt g) l.length)) (endX l (lAt g) l.length)) := ⟨by rw [hpe.1, hpc.1], by rw [hpe.2, hpc.2]⟩
        clear hpe hpc
        go_wp2_with fail
        refine (hlist_any w.heap.size A l c (some ⟨w1.heap.size, 0, none⟩) (plL l (lAt g) l.length) l.length (endX l (lAt g) l.length) wr HCN.out HAV.out (plL_len _ _ _) (HK.out.1.next HBW) HR.out.ints).mono ?_
        rintro e w5 hp5
        have hws : w.heap.size < w1.heap.size := (Array.getElem?_eq_some_iff.1 HZ.out).1
        have hws2 := HR.out.bel.size
        obtain ⟨A2, c2, rfl, hz5, hp6⟩ := PPost.up (w := w) hp5 (Nat.le_refl _) (by omega) rfl (below_next HBW hp5.2) ((hp5.2.block _ (by omega)).trans ((HR.out.bel.block _ hws).trans HZ.out))
        rw [← HPE.out.1, ← HPE.out.2] at hp6 ⊢
        have HP6 := Lib.hid hp6
        have HZ5 := Lib.hid hz5
        clear hp5 hp6 hz5 hws hws2
        go_wp2_with ((with_reducible refine at_store 28 ?_); go_loud (refine wpList_store_all i1 11 hi1 hy1 rfl rfl rfl HZ5.out (by decide) (bxA_one (rowR l g) A2 c2 none 0) ?_); rw [row_all _ _ rfl rfl])
        refine bodyPost_ret (results_cell_tmp rfl _ i1 11 hi1 hy1 _ Try.underlying28 rfl rfl (fun j _ => by rw [Nat.zero_add]; exact cell_setRow_same _ _ _ _ _ _ _ HZ5.out)) rfl ?_
        exact HP6.out
end Go.Proofs.Ytjckbdbjcgjcaaa
