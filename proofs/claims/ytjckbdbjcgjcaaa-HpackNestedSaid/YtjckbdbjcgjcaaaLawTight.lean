/- The law on the height and the depth of a row: the walk. -/
import Derived.Test.YtjckbdbjcgjcaaaLawRow
namespace Go.Proofs.Ytjckbdbjcgjcaaa
open Go.RowKit
theorem rowE_zero {l : List Bx} {g : List Int} (h : rowE l g = 0) : allV l ∧ spcOk l g ∧ validB (rowB l (plX l (lAt g)) (endX l (lAt g) l.length)) ∧ rowR l g = rowB l (plX l (lAt g)) (endX l (lAt g) l.length) := by
  by_cases h1 : allV l
  case neg => rw [(row_1 h1).1] at h; exact absurd h (by decide)
  by_cases h2 : spcOk l g
  case neg => rw [(row_2 h1 h2).1] at h; exact absurd h (by decide)
  rw [(row_3 h1 h2).1] at h
  by_cases h3 : validB (rowB l (plX l (lAt g)) (endX l (lAt g) l.length))
  case neg => rw [(put_no h3).1] at h; exact absurd h (by decide)
  exact ⟨h1, h2, h3, (row_3 h1 h2).2.trans (put_yes h3).2⟩
theorem rowR_other {l : List Bx} {g : List Int} (h : rowE l g ≠ 0) : rowR l g = zeroBx := by
  by_cases h1 : allV l
  case neg => exact (row_1 h1).2
  by_cases h2 : spcOk l g
  case neg => exact (row_2 h1 h2).2
  by_cases h3 : validB (rowB l (plX l (lAt g)) (endX l (lAt g) l.length))
  case neg => exact (row_3 h1 h2).2.trans (put_no h3).2
  rw [(row_3 h1 h2).1, (put_yes h3).1] at h
  exact absurd rfl h
/-- A number is 0, or one of the first n that f gives. -/
def tpP (f : Nat → Int) (H : Int) : Nat → Prop
  | 0 => H = 0
  | n + 1 => tpP f H n ∨ f n = H
theorem maxH_le (l : List Bx) : ∀ n i, i < n → (kidAt l i).y + (kidAt l i).h ≤ maxH l n
  | 0, _, h => absurd h (Nat.not_lt_zero _)
  | n + 1, i, h => by
    show _ ≤ max (maxH l n) ((kidAt l n).y + (kidAt l n).h)
    rcases Nat.lt_succ_iff_lt_or_eq.1 h with h1 | rfl
    · have := maxH_le l n i h1; omega
    · omega
theorem maxD_le (l : List Bx) : ∀ n i, i < n → (kidAt l i).d - (kidAt l i).y ≤ maxD l n
  | 0, _, h => absurd h (Nat.not_lt_zero _)
  | n + 1, i, h => by
    show _ ≤ max (maxD l n) ((kidAt l n).d - (kidAt l n).y)
    rcases Nat.lt_succ_iff_lt_or_eq.1 h with h1 | rfl
    · have := maxD_le l n i h1; omega
    · omega
theorem maxH_met (l : List Bx) : ∀ n, tpP (fun i => (kidAt l i).y + (kidAt l i).h) (maxH l n) n
  | 0 => rfl
  | n + 1 => by
    have h := maxH_met l n
    show tpP _ (max (maxH l n) ((kidAt l n).y + (kidAt l n).h)) n ∨ (kidAt l n).y + (kidAt l n).h = max (maxH l n) ((kidAt l n).y + (kidAt l n).h)
    by_cases hc : (kidAt l n).y + (kidAt l n).h ≤ maxH l n
    · rw [show max (maxH l n) ((kidAt l n).y + (kidAt l n).h) = maxH l n by omega]; exact .inl h
    · exact .inr (by omega)
theorem maxD_met (l : List Bx) : ∀ n, tpP (fun i => (kidAt l i).d - (kidAt l i).y) (maxD l n) n
  | 0 => rfl
  | n + 1 => by
    have h := maxD_met l n
    show tpP _ (max (maxD l n) ((kidAt l n).d - (kidAt l n).y)) n ∨ (kidAt l n).d - (kidAt l n).y = max (maxD l n) ((kidAt l n).d - (kidAt l n).y)
    by_cases hc : (kidAt l n).d - (kidAt l n).y ≤ maxD l n
    · rw [show max (maxD l n) ((kidAt l n).d - (kidAt l n).y) = maxD l n by omega]; exact .inl h
    · exact .inr (by omega)
theorem tp_yes {f : Nat → Int} {H : Int} {n : Nat} (h : tpP f H n) : (true = true ↔ tpP f H (n + 1)) := ⟨fun _ => .inl h, fun _ => rfl⟩
theorem tp_eq {f : Nat → Int} {H : Int} {n : Nat} {r : Bool} (h : ¬ tpP f H n) (hr : r = true ↔ f n = H) : (r = true ↔ tpP f H (n + 1)) := ⟨fun e => .inr (hr.1 e), fun e => hr.2 (e.resolve_left h)⟩
set_option maxRecDepth 100000 in
set_option maxHeartbeats 1500000 in
theorem hpackTight_walk (A : Option Addr) (l : List Bx) (c : Nat) (B : Option Addr) (g : List Int) (d : Nat) (w : World) (hl : l.length ≤ lenMax) (hg : g.length ≤ lenMax) (hK : Kids w 0 w.heap.size A l) (hI : Ints w 0 w.heap.size B g) :
    Calls Try.prog 6 #[.slice A l.length c, .slice B g.length d] w fun e w' => e = .returned (.bool true) ∧ Below w.heap.size w w' := by
  obtain ⟨i1, hi1, hy0, hy1, hy2⟩ := info_parts infoBox
  have HK := Lib.hid (And.intro hK hI)
  have HL := Lib.hid hl
  have HG := Lib.hid hg
  have hl' : l.length ≤ 9223372036854775807 := hl
  have hg' : g.length ≤ 9223372036854775807 := hg
  clear hK hI hl hg
  go_enter Try.func6, Try.ntmps6
  go_wp2_with fail
  refine (hawake_any w).mono ?_
  rintro e w1 ⟨rfl, hb1⟩
  have HB1 := Lib.hid hb1
  clear hb1
  obtain ⟨r, hr⟩ : ∃ r, decide (1 + cntL l ≤ 400) = r := ⟨_, rfl⟩
  have HR := Lib.hid hr
  clear hr
  go_wp2_with fail
  refine (few_any l 400 A c w1 (by omega) HR.out (HK.out.1.next HB1.out)).mono ?_
  rintro e w2 ⟨rfl, hb2⟩
  have HB2 := Lib.hid (below_next HB1.out hb2)
  clear hb2
  cases r with
  | false =>
    go_wp2
    go_ret
    exact ⟨rfl, HB2.out⟩
  | true =>
    have HCN : Hid (cntL l ≤ 1000) := by have := of_decide_eq_true HR.out; show _ ≤ _; omega
    clear HR
    by_cases hg4 : g.length ≤ 400
    case neg =>
      go_wp2
      go_ret
      exact ⟨rfl, HB2.out⟩
    have hl2 : l.length ≤ 1000 := by have := cnt_len l; have := HCN.out; omega
    have HLE : Hid (lens (rowR l g) ∧ cntB (rowR l g) ≤ 1001 ∧ (rowR l g).src = []) := rowR_lens hl2 HCN.out
    have HCA : Hid (∀ W, Below w.heap.size w W → Calls Try.prog 18 #[.slice A l.length c, .slice B g.length d] W (PPost W.heap.size (rowR l g) (rowE l g) W)) := fun W hW => hrow_any A l c B g d W HCN.out HG.out (HK.out.1.next hW) (HK.out.2.next hW)
    have HE0 : Hid (∀ _ : rowE l g = 0, allV l ∧ spcOk l g ∧ validB (rowB l (plX l (lAt g)) (endX l (lAt g) l.length)) ∧ rowR l g = rowB l (plX l (lAt g)) (endX l (lAt g) l.length)) := fun h => rowE_zero h
    have HE1 : Hid (∀ _ : rowE l g ≠ 0, rowR l g = zeroBx) := fun h => rowR_other h
    generalize rowR l g = R at HLE HCA HE0 HE1
    generalize rowE l g = E at HCA HE0 HE1
    go_wp2_with fail
    refine (HCA.out w2 HB2.out).mono ?_
    rintro e w3 hp3
    obtain ⟨A3, c3, rfl, hk3, hb3⟩ := hp3.now
    have HB3 := Lib.hid (below_next HB2.out hb3)
    have HK3 := Lib.hid hk3
    clear hb3 hk3 hp3
    have HB4 : Hid (Below w3.heap.size w3 (w3.alloc (.cells (bxA R A3 c3 none 0) 28))) := one_below _ _
    have HD4 := Lib.hid (blk_new w3 (.cells (bxA R A3 c3 none 0) 28))
    by_cases hE : E = 0
    case neg =>
      obtain rfl := HE1.out hE
      have q1 : (E != 0) = true := by simp [hE]
      have HC4 : Hid (∀ j, j < 11 → (w3.alloc (.cells (bxA zeroBx A3 c3 none 0) 28)).cell? ⟨w3.heap.size, 0 + j, none⟩ = (bxA zeroBx A3 c3 none 0)[j]?) := fun j _ => by
        rw [Nat.zero_add]; exact cell_of_row _ _ _ _ _ _ HD4.out
      go_wp2_with ((with_reducible refine at_load 28 ?_); go_loud (refine wpList_load_all i1 11 hi1 hy1 _ Try.underlying28 rfl rfl HC4.out ?_))
      refine (requal_any (cntB zeroBx) true zeroBx zeroBx (Nat.le_refl _) HLE.out.1 HLE.out.1 ⟨fun _ => rfl, fun _ => rfl⟩ A3 c3 none 0 none 0 none 0 (w3.alloc (.cells (bxA zeroBx A3 c3 none 0) 28)) (HK3.out.next HB4.out) (fun h => absurd h (by simp [zeroBx, Bx.src])) (Kids.nil _ _ _ _) (fun h => absurd h (by simp [zeroBx, Bx.src]))).mono ?_
      rintro e w7 ⟨rfl, hb7⟩
      have HB7 := Lib.hid (below_next HB3.out (below_next HB4.out hb7))
      clear hb7
      go_wp2
      go_ret
      exact ⟨rfl, HB7.out⟩
    subst hE
    obtain ⟨hav, hok, -, hRe⟩ := HE0.out rfl
    have hgl : g.length = l.length := hok.1
    have HAV := Lib.hid hav
    have HGL := Lib.hid hgl
    have hkl : R.kids.length = l.length := by rw [hRe]; exact movedX_len _ _
    have HRK : Hid (R.kids = movedX l (plX l (lAt g))) := by show _ = _; rw [hRe]; rfl
    obtain ⟨hh, hhh⟩ : ∃ hh, R.h = hh := ⟨_, rfl⟩
    obtain ⟨dd, hdd⟩ : ∃ dd, R.d = dd := ⟨_, rfl⟩
    have HNM : Hid (hh = maxH l l.length ∧ dd = maxD l l.length) := by
      rw [← hhh, ← hdd, hRe]
      exact ⟨rfl, rfl⟩
    have HCW : Hid (∀ W : World, Below (w3.alloc (.cells (bxA R A3 c3 none 0) 28)).heap.size (w3.alloc (.cells (bxA R A3 c3 none 0) 28)) W → W.heap[w3.heap.size]? = some (.cells (bxA R A3 c3 none 0) 28 (0, 0)) ∧ Kids W 0 W.heap.size A3 (movedX l (plX l (lAt g))) ∧ Below w.heap.size w W) := fun W hW => by
      have h3 := below_next HB4.out hW
      exact ⟨(hW.block _ (by simp)).trans HD4.out, by rw [← HRK.out]; exact HK3.out.next h3, below_next HB3.out h3⟩
    have HX : Hid (∀ W : World, W.heap[w3.heap.size]? = some (.cells (bxA R A3 c3 none 0) 28 (0, 0)) → W.cell? ⟨w3.heap.size, 8, none⟩ = some (.slice A3 l.length c3) ∧ W.cell? ⟨w3.heap.size, 4, none⟩ = some (.int .i64 hh) ∧ W.cell? ⟨w3.heap.size, 5, none⟩ = some (.int .i64 dd)) := fun W hW => by
      rw [← hkl, ← hhh, ← hdd]
      exact ⟨blk_cell hW 8 _ rfl, blk_cell hW 4 _ rfl, blk_cell hW 5 _ rfl⟩
    obtain ⟨x8, x4, x5⟩ := HX.out _ HD4.out
    have HHL := Lib.hid hl2
    rw [hgl]
    clear hav hok hRe hgl hkl hhh hdd hl2 HE0 HE1 HLE HD4 HK3 HRK HCA
    go_wp2_with fail
    go_quiet (fail)
    go_wp2_with fail
    clear x4 x5 x8
    have HB5 : Hid (Below (w3.alloc (.cells (bxA R A3 c3 none 0) 28)).heap.size (w3.alloc (.cells (bxA R A3 c3 none 0) 28)) ((w3.alloc (.cells (bxA R A3 c3 none 0) 28)).drewN nq)) := below_drewN (Below.refl _ _) _
    obtain ⟨fH, hfH⟩ : ∃ fH, fH = fun i => (kidAt l i).y + (kidAt l i).h := ⟨_, rfl⟩
    obtain ⟨fD, hfD⟩ : ∃ fD, fD = fun i => (kidAt l i).d - (kidAt l i).y := ⟨_, rfl⟩
    have HF := Lib.hid (And.intro hfH hfD)
    clear hfH hfD
    go_loopw [7, 8, 9] (fun a b q wr => ∃ (i : Nat) (t u : Bool), i ≤ l.length ∧ q = .int .i64 (i : Int) ∧ a = .bool t ∧ b = .bool u ∧ (t = true ↔ tpP fH hh i) ∧ (u = true ↔ tpP fD dd i) ∧ Below (w3.alloc (.cells (bxA R A3 c3 none 0) 28)).heap.size (w3.alloc (.cells (bxA R A3 c3 none 0) 28)) wr) (fun _ _ q _ => l.length - (intOf q).toNat)
    case atStart => exact ⟨0, _, _, Nat.zero_le _, rfl, rfl, rfl, by simp [tpP], by simp [tpP], HB5.out⟩
    case round =>
      obtain ⟨i, t, u, hi, rfl, rfl, rfl, ht, hu, hbw⟩ := hrel
      have HT := Lib.hid ht
      have HU := Lib.hid hu
      have HB := Lib.hid hbw
      obtain ⟨hd4, hk4, hbb⟩ := HCW.out wr hbw
      have HBB := Lib.hid hbb
      have HD := Lib.hid hd4
      obtain ⟨x8, x4, x5⟩ := HX.out wr hd4
      have HKK := Lib.hid hk4
      clear hbw hbb hd4 hk4 ht hu
      by_cases hlt : i < l.length
      · clear x4 x5
        obtain ⟨kb, ko, A1, c1, A2, c2, rfl, _, hkb, hat, -⟩ := HKK.out.at (i := i) (by rw [movedX_len]; exact hlt)
        rw [movedX_at hlt] at hat
        obtain ⟨px, hpx⟩ : ∃ px, plX l (lAt g) i = px := ⟨_, rfl⟩
        rw [hpx] at hat
        have HC : Hid (∀ j, j < 11 → wr.cell? ⟨kb, ko + i * 11 + j, none⟩ = (bxA ((kidAt l i).atX px) A1 c1 A2 c2)[j]?) := hat
        have hnum := HAV.out.num hlt
        have hmh := maxH_le l l.length i hlt
        have hmd := maxD_le l l.length i hlt
        rw [← HNM.out.1] at hmh
        rw [← HNM.out.2] at hmd
        obtain ⟨h0, hh0⟩ : ∃ h0, (kidAt l i).h = h0 := ⟨_, rfl⟩
        obtain ⟨d0, hd0⟩ : ∃ d0, (kidAt l i).d = d0 := ⟨_, rfl⟩
        obtain ⟨y0, hy0'⟩ : ∃ y0, (kidAt l i).y = y0 := ⟨_, rfl⟩
        obtain ⟨W5, hW5⟩ : ∃ W5, wr.alloc (.cells (bxA ((kidAt l i).atX px) A1 c1 A2 c2) 28) = W5 := ⟨_, rfl⟩
        have hb5 : Below wr.heap.size wr W5 := by rw [← hW5]; exact one_below _ _
        have n5 : W5.heap[wr.heap.size]? = some (.cells (bxA ((kidAt l i).atX px) A1 c1 A2 c2) 28 (0, 0)) := by rw [← hW5]; exact blk_new _ _
        have p4 : W5.cell? ⟨wr.heap.size, 4, none⟩ = some (.int .i64 h0) := by rw [← hh0]; exact blk_cell n5 4 _ rfl
        have p5 : W5.cell? ⟨wr.heap.size, 5, none⟩ = some (.int .i64 d0) := by rw [← hd0]; exact blk_cell n5 5 _ rfl
        have p7 : W5.cell? ⟨wr.heap.size, 7, none⟩ = some (.int .i64 y0) := by rw [← hy0']; exact blk_cell n5 7 _ rfl
        obtain ⟨_, y4, y5⟩ := HX.out W5 ((hb5.block _ (Array.getElem?_eq_some_iff.1 HD.out).1).trans HD.out)
        have HB5' := Lib.hid (below_next HB.out hb5)
        unfold rngL at hnum
        rw [hh0, hd0, hy0'] at hnum
        rw [hy0', hh0] at hmh
        rw [hd0, hy0'] at hmd
        have s1 : IntKind.i64.wrap (y0 + h0) = y0 + h0 := IntWalk.i64_in _ (by omega)
        have s2 : IntKind.i64.wrap (d0 - y0) = d0 - y0 := IntWalk.i64_in _ (by omega)
        have o1 : ¬ hh < y0 + h0 := by omega
        have o2 : ¬ dd < d0 - y0 := by omega
        have HFI : Hid (fH i = y0 + h0 ∧ fD i = d0 - y0) := by rw [HF.out.1, HF.out.2, ← hy0', ← hh0, ← hd0]; exact ⟨rfl, rfl⟩
        clear hat hmh hmd hnum hh0 hd0 hy0' hpx n5 hb5
        have hcases : (t = true ∧ tpP fH hh i ∨ t = false ∧ ¬ tpP fH hh i) ∧ (u = true ∧ tpP fD dd i ∨ u = false ∧ ¬ tpP fD dd i) := by
          constructor
          · cases t with
            | true => exact .inl ⟨rfl, HT.out.1 rfl⟩
            | false => exact .inr ⟨rfl, fun h => by have := HT.out.2 h; simp at this⟩
          · cases u with
            | true => exact .inl ⟨rfl, HU.out.1 rfl⟩
            | false => exact .inr ⟨rfl, fun h => by have := HU.out.2 h; simp at this⟩
        clear HT HU
        obtain ⟨⟨rfl, hpt⟩ | ⟨rfl, hpt⟩, ⟨rfl, hpu⟩ | ⟨rfl, hpu⟩⟩ := hcases
        all_goals
          have HT := Lib.hid hpt
          have HU := Lib.hid hpu
          clear hpt hpu
          go_wp2_with (first
            | ((with_reducible refine at_load 28 ?_); go_loud (refine wpList_load_all i1 11 hi1 hy1 _ Try.underlying28 rfl rfl HC.out ?_)))
          go_quiet (fail)
          go_wp2_with fail
          go_roundw
          case rel => exact ⟨i + 1, _, _, by omega, by go_num, rfl, rfl, by first | exact tp_yes HT.out | exact tp_eq HT.out (by rw [HFI.out.1]; simp), by first | exact tp_yes HU.out | exact tp_eq HU.out (by rw [HFI.out.2]; simp), below_drewN HB5'.out _⟩
          case measure => simp [intOf]; omega
      · obtain rfl : i = l.length := by omega
        have ht : t = true := HT.out.2 (by rw [HF.out.1, HNM.out.1]; exact maxH_met l _)
        have hu : u = true := HU.out.2 (by rw [HF.out.2, HNM.out.2]; exact maxD_met l _)
        have g1 : 0 ≤ hh := by rw [HNM.out.1]; exact (maxH_bound HAV.out l.length (Nat.le_refl _)).1
        have g2 : 0 ≤ dd := by rw [HNM.out.2]; exact (maxD_bound HAV.out l.length (Nat.le_refl _)).1
        subst ht hu
        clear HT HU
        go_wp2
        go_ret
        exact ⟨rfl, HBB.out⟩
end Go.Proofs.Ytjckbdbjcgjcaaa
