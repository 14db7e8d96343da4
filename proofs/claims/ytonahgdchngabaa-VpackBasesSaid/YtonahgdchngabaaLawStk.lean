/- The law on the stack of a column: the walk. -/
import Derived.Test.YtonahgdchngabaaLawCol
namespace Go.Proofs.Ytonahgdchngabaa
open Go.RowKit
theorem colE_zero {l : List Bx} {g : List Int} {b : Int} (h : colE l g b = 0) : allV l ∧ colOk l g b ∧ gapsOk g ∧ validB (colB l g b.toNat) ∧ colR l g b = colB l g b.toNat := by
  by_cases h1 : allV l
  case neg => rw [(colE_1 h1).1] at h; exact absurd h (by decide)
  by_cases h2 : colOk l g b
  case neg => rw [(colE_2 h1 h2).1] at h; exact absurd h (by decide)
  by_cases h3 : gapsOk g
  case neg => rw [(colE_3 h1 h2 h3).1] at h; exact absurd h (by decide)
  by_cases h4 : validB (colB l g b.toNat)
  case neg => rw [(colE_4 h1 h2 h3 h4).1] at h; exact absurd h (by decide)
  exact ⟨h1, h2, h3, h4, (colE_0 h1 h2 h3 h4).2⟩
theorem colR_other {l : List Bx} {g : List Int} {b : Int} (h : colE l g b ≠ 0) : colR l g b = zeroBx := by unfold colR; rw [if_neg h]
/-- The place above a kid: the top, or the bottom of the kid before. -/
def stkY (l : List Bx) (g : List Int) (b : Nat) : Nat → Int
  | 0 => colY l g b 0 + (kidAt l 0).h + lAt g 0
  | i + 1 => colY l g b i - (kidAt l i).d
theorem stkY_0 (l : List Bx) (g : List Int) (b : Nat) : stkY l g b 0 = colY l g b 0 + (kidAt l 0).h + lAt g 0 := rfl
theorem stkY_s (l : List Bx) (g : List Int) (b i : Nat) : stkY l g b (i + 1) = colY l g b i - (kidAt l i).d := rfl
theorem stkY_gap (l : List Bx) (g : List Int) (b i : Nat) : stkY l g b i - lAt g i = colY l g b i + (kidAt l i).h := by
  cases i with
  | zero => rw [stkY_0]; omega
  | succ i =>
    have h : downI l g (i + 1) = downI l g i + distI l g i := rfl
    rw [stkY_s]
    unfold colY
    unfold distI at h
    omega
theorem maxR_le (l : List Bx) : ∀ n i, i < n → (kidAt l i).x + (kidAt l i).w ≤ maxR l n
  | 0, _, h => absurd h (Nat.not_lt_zero _)
  | n + 1, i, h => by
    show _ ≤ max (maxR l n) ((kidAt l n).x + (kidAt l n).w)
    rcases Nat.lt_succ_iff_lt_or_eq.1 h with h1 | rfl
    · have := maxR_le l n i h1
      omega
    · omega
theorem stkY_bound {l : List Bx} {g : List Int} (h : allV l) (hg : gapsOk g) (hgl : g.length = l.length) (hl : l.length ≤ 1000) {b i : Nat} (hb : b < l.length) (hi : i ≤ l.length) : -7000000000000 ≤ stkY l g b i ∧ stkY l g b i ≤ 7000000000000 := by
  cases i with
  | zero =>
    have h1 := colY_bound h hg hgl hl hb (i := 0) (by omega)
    have h2 := (h.num (i := 0) (by omega)).2.1
    have h3 := hg 0 (by omega)
    unfold rngL at h2 h3
    rw [stkY_0]
    omega
  | succ i =>
    have h1 := colY_bound h hg hgl hl hb (i := i) (by omega)
    have h2 := (h.num (i := i) (by omega)).2.2.1
    unfold rngL at h2
    rw [stkY_s]
    omega
set_option maxRecDepth 100000 in
set_option maxHeartbeats 1500000 in
theorem vpackStacks_walk (A : Option Addr) (l : List Bx) (c : Nat) (B : Option Addr) (g : List Int) (d : Nat) (b : Int) (w : World) (hl : l.length ≤ lenMax) (hg : g.length ≤ lenMax) (hK : Kids w 0 w.heap.size A l) (hI : Ints w 0 w.heap.size B g) :
    Calls Try.prog 5 #[.slice A l.length c, .slice B g.length d, .int .i64 b] w fun e w' => e = .returned (.bool true) ∧ Below w.heap.size w w' := by
  obtain ⟨i1, hi1, hy0, hy1, hy2⟩ := info_parts infoBox
  have HK := Lib.hid (And.intro hK hI)
  have HL := Lib.hid hl
  have HG := Lib.hid hg
  have hl' : l.length ≤ 9223372036854775807 := hl
  have hg' : g.length ≤ 9223372036854775807 := hg
  clear hK hI hl hg
  go_enter Try.func5, Try.ntmps5
  go_wp2_with fail
  refine (vawake_any w).mono ?_
  rintro e w1 ⟨rfl, hb1⟩
  have HB1 := Lib.hid hb1
  clear hb1
  obtain ⟨r, hr⟩ : ∃ r, decide (1 + cntL l ≤ 400) = r := ⟨_, rfl⟩
  have HR := Lib.hid hr
  clear hr
  go_wp2_with fail
  refine (few_any l 400 A c w1 (by omega) HR.out (HK.out.1.next HB1.out)).mono ?_
  rintro e w2 ⟨rfl, hb2⟩
  have HB2 := Lib.hid (below_next HB1.out hb2)
  clear hb2
  cases r with
  | false =>
    go_wp2
    go_ret
    exact ⟨rfl, HB2.out⟩
  | true =>
    have HCN : Hid (cntL l ≤ 1000) := by have := of_decide_eq_true HR.out; show _ ≤ _; omega
    clear HR
    by_cases hg4 : g.length ≤ 400
    case neg =>
      go_wp2
      go_ret
      exact ⟨rfl, HB2.out⟩
    have hl2 : l.length ≤ 1000 := by have := cnt_len l; have := HCN.out; omega
    have HLE : Hid (lens (colR l g b) ∧ cntB (colR l g b) ≤ 1001 ∧ (colR l g b).src = []) := ⟨(colR_lens hl2 HCN.out).1, (colR_lens hl2 HCN.out).2, colR_src⟩
    have HCA : Hid (∀ W, Below w.heap.size w W → Calls Try.prog 10 #[.slice A l.length c, .slice B g.length d, .int .i64 b] W (ColPost l g b W)) := fun W hW => column_any A l c B g d b W HCN.out HG.out (HK.out.1.next hW) (HK.out.2.next hW)
    unfold ColPost at HCA
    have HE0 : Hid (∀ h : colE l g b = 0, allV l ∧ colOk l g b ∧ gapsOk g ∧ validB (colB l g b.toNat) ∧ colR l g b = colB l g b.toNat) := fun h => colE_zero h
    have HE1 : Hid (∀ h : colE l g b ≠ 0, colR l g b = zeroBx) := fun h => colR_other h
    generalize colR l g b = R at HLE HCA HE0 HE1
    generalize colE l g b = E at HCA HE0 HE1
    go_wp2_with fail
    refine (HCA.out w2 HB2.out).mono ?_
    rintro e w3 ⟨⟨A3, c3, rfl, hk3⟩, hb3⟩
    have HB3 := Lib.hid (below_next HB2.out hb3)
    have HK3 := Lib.hid hk3
    clear hb3 hk3
    have HB4 : Hid (Below w3.heap.size w3 (w3.alloc (.cells (bxA R A3 c3 none 0) 27))) := one_below _ _
    have HD4 := Lib.hid (blk_new w3 (.cells (bxA R A3 c3 none 0) 27))
    by_cases hE : E = 0
    case neg =>
      obtain rfl := HE1.out hE
      have q1 : (E != 0) = true := by simp [hE]
      have HC4 : Hid (∀ j, j < 11 → (w3.alloc (.cells (bxA zeroBx A3 c3 none 0) 27)).cell? ⟨w3.heap.size, 0 + j, none⟩ = (bxA zeroBx A3 c3 none 0)[j]?) := fun j _ => by
        rw [Nat.zero_add]; exact cell_of_row _ _ _ _ _ _ HD4.out
      go_wp2_with ((with_reducible refine at_load 27 ?_); go_loud (refine wpList_load_all i1 11 hi1 hy1 _ Try.underlying27 rfl rfl HC4.out ?_))
      refine (requal_any (cntB zeroBx) true zeroBx zeroBx (Nat.le_refl _) HLE.out.1 HLE.out.1 ⟨fun _ => rfl, fun _ => rfl⟩ A3 c3 none 0 none 0 none 0 (w3.alloc (.cells (bxA zeroBx A3 c3 none 0) 27)) (HK3.out.next HB4.out) (fun h => absurd h (by simp [zeroBx, Bx.src])) (Kids.nil _ _ _ _) (fun h => absurd h (by simp [zeroBx, Bx.src]))).mono ?_
      rintro e w7 ⟨rfl, hb7⟩
      have HB7 := Lib.hid (below_next HB3.out (below_next HB4.out hb7))
      clear hb7
      go_wp2
      go_ret
      exact ⟨rfl, HB7.out⟩
    subst hE
    obtain ⟨hav, hok, hgo, -, hRe⟩ := HE0.out rfl
    obtain ⟨nb, rfl⟩ : ∃ nb : Nat, b = (nb : Int) := ⟨b.toNat, by have := hok.2.1; omega⟩
    rw [Int.toNat_natCast] at hRe
    have hgl : g.length = l.length := hok.1
    have hnb : nb < l.length := by have := hok.2.2; omega
    have HAV := Lib.hid hav
    have HGO := Lib.hid hgo
    have HGL := Lib.hid hgl
    have hkl : R.kids.length = l.length := by rw [hRe]; exact movedY_len _ _
    have HRK : Hid (R.kids = movedY l (colY l g nb)) := by show _ = _; rw [hRe]; rfl
    obtain ⟨hh, hhh⟩ : ∃ hh, R.h = hh := ⟨_, rfl⟩
    obtain ⟨dd, hdd⟩ : ∃ dd, R.d = dd := ⟨_, rfl⟩
    obtain ⟨mm, hmm⟩ : ∃ mm, R.w = mm := ⟨_, rfl⟩
    have HNM : Hid (hh = stkY l g nb 0 ∧ stkY l g nb l.length = -dd ∧ mm = maxR l l.length) := by
      rw [← hhh, ← hdd, ← hmm, hRe]
      refine ⟨rfl, ?_, rfl⟩
      show stkY l g nb l.length = -((kidAt l (l.length - 1)).d - colY l g nb (l.length - 1))
      obtain ⟨m, hm⟩ : ∃ m, l.length = m + 1 := ⟨l.length - 1, by omega⟩
      rw [hm]
      show colY l g nb m - (kidAt l m).d = -((kidAt l m).d - colY l g nb m)
      omega
    have HCW : Hid (∀ W, Below (w3.alloc (.cells (bxA R A3 c3 none 0) 27)).heap.size (w3.alloc (.cells (bxA R A3 c3 none 0) 27)) W → W.heap[w3.heap.size]? = some (.cells (bxA R A3 c3 none 0) 27 (0, 0)) ∧ Kids W 0 W.heap.size A3 (movedY l (colY l g nb)) ∧ Below w.heap.size w W) := fun W hW => by
      have h3 := below_next HB4.out hW
      exact ⟨(hW.block _ (by simp)).trans HD4.out, by rw [← HRK.out]; exact HK3.out.next h3, below_next HB3.out h3⟩
    obtain ⟨x4, x5⟩ : (w3.alloc (.cells (bxA R A3 c3 none 0) 27)).cell? ⟨w3.heap.size, 4, none⟩ = some (.int .i64 hh) ∧ (w3.alloc (.cells (bxA R A3 c3 none 0) 27)).cell? ⟨w3.heap.size, 8, none⟩ = some (.slice A3 l.length c3) := by
      rw [← hhh, ← hkl]
      exact ⟨blk_cell HD4.out 4 _ rfl, blk_cell HD4.out 8 _ rfl⟩
    have HX : Hid (∀ W : World, W.heap[w3.heap.size]? = some (.cells (bxA R A3 c3 none 0) 27 (0, 0)) → W.cell? ⟨w3.heap.size, 8, none⟩ = some (.slice A3 l.length c3) ∧ W.cell? ⟨w3.heap.size, 3, none⟩ = some (.int .i64 mm) ∧ W.cell? ⟨w3.heap.size, 5, none⟩ = some (.int .i64 dd)) := fun W hW => by
      rw [← hkl, ← hmm, ← hdd]
      exact ⟨blk_cell hW 8 _ rfl, blk_cell hW 3 _ rfl, blk_cell hW 5 _ rfl⟩
    have HHL := Lib.hid hl2
    rw [hgl]
    clear hav hok hgo hRe hgl hkl hhh hdd hmm hl2 HE0 HE1 HLE HD4 HK3 HRK HCA
    go_wp2_with fail
    clear x4 x5
    go_loopw [9, 10] (fun v q wr => ∃ i : Nat, i ≤ l.length ∧ q = .int .i64 (i : Int) ∧ v = .int .i64 (stkY l g nb i) ∧ Below (w3.alloc (.cells (bxA R A3 c3 none 0) 27)).heap.size (w3.alloc (.cells (bxA R A3 c3 none 0) 27)) wr) (fun _ q _ => l.length - (intOf q).toNat)
    case atStart => exact ⟨0, Nat.zero_le _, rfl, by rw [HNM.out.1], Below.refl _ _⟩
    case round =>
      obtain ⟨i, hi, rfl, rfl, hbw⟩ := hrel
      have HB := Lib.hid hbw
      obtain ⟨hd4, hk4, hbb⟩ := HCW.out wr hbw
      have HBB := Lib.hid hbb
      have HD := Lib.hid hd4
      obtain ⟨x8, x3, x5⟩ := HX.out wr hd4
      have HKK := Lib.hid hk4
      clear hbw hbb hd4 hk4
      by_cases hlt : i < l.length
      · clear x3 x5
        obtain ⟨kb, ko, A1, c1, A2, c2, rfl, _, hkb, hat, -⟩ := HKK.out.at (i := i) (by rw [movedY_len]; exact hlt)
        rw [movedY_at hlt] at hat
        obtain ⟨yy, hyy⟩ : ∃ yy, colY l g nb i = yy := ⟨_, rfl⟩
        rw [hyy] at hat
        have HC : Hid (∀ j, j < 11 → wr.cell? ⟨kb, ko + i * 11 + j, none⟩ = (bxA ((kidAt l i).atY yy) A1 c1 A2 c2)[j]?) := hat
        obtain ⟨ob, oo, A5, c5, A6, c6, rfl, _, hob, hat2, -⟩ := HK.out.1.at hlt
        obtain ⟨gb, go, rfl, _, hgb, hgc⟩ := HK.out.2 (by have := HGL.out; omega)
        obtain ⟨v, hv⟩ : ∃ v, stkY l g nb i = v := ⟨_, rfl⟩
        have hvb := stkY_bound HAV.out HGO.out HGL.out HHL.out hnb (i := i) (by omega)
        have hyb := colY_bound HAV.out HGO.out HGL.out HHL.out hnb hlt
        have hnum := HAV.out.num hlt
        have hgr := HGO.out i (by have := HGL.out; omega)
        have hgap := stkY_gap l g nb i
        have hmr := maxR_le l l.length i hlt
        rw [← HNM.out.2.2] at hmr
        obtain ⟨xx, hxx⟩ : ∃ xx, (kidAt l i).x = xx := ⟨_, rfl⟩
        obtain ⟨ww, hww⟩ : ∃ ww, (kidAt l i).w = ww := ⟨_, rfl⟩
        obtain ⟨h0, hh0⟩ : ∃ h0, (kidAt l i).h = h0 := ⟨_, rfl⟩
        obtain ⟨d0, hd0⟩ : ∃ d0, (kidAt l i).d = d0 := ⟨_, rfl⟩
        obtain ⟨g0, hg0⟩ : ∃ g0, lAt g i = g0 := ⟨_, rfl⟩
        obtain ⟨W5, hW5⟩ : ∃ W5, wr.alloc (.cells (bxA ((kidAt l i).atY yy) A1 c1 A2 c2) 27) = W5 := ⟨_, rfl⟩
        have hb5 : Below wr.heap.size wr W5 := by rw [← hW5]; exact one_below _ _
        have n5 : W5.heap[wr.heap.size]? = some (.cells (bxA ((kidAt l i).atY yy) A1 c1 A2 c2) 27 (0, 0)) := by rw [← hW5]; exact blk_new _ _
        have p3 : W5.cell? ⟨wr.heap.size, 3, none⟩ = some (.int .i64 ww) := by rw [← hww]; exact blk_cell n5 3 _ rfl
        have p4 : W5.cell? ⟨wr.heap.size, 4, none⟩ = some (.int .i64 h0) := by rw [← hh0]; exact blk_cell n5 4 _ rfl
        have p5 : W5.cell? ⟨wr.heap.size, 5, none⟩ = some (.int .i64 d0) := by rw [← hd0]; exact blk_cell n5 5 _ rfl
        have p6 : W5.cell? ⟨wr.heap.size, 6, none⟩ = some (.int .i64 xx) := by rw [← hxx]; exact blk_cell n5 6 _ rfl
        have p7 : W5.cell? ⟨wr.heap.size, 7, none⟩ = some (.int .i64 yy) := blk_cell n5 7 _ rfl
        have y6 : W5.cell? ⟨ob, oo + i * 11 + 6, none⟩ = some (.int .i64 xx) := by rw [← hxx]; exact ((below_next HBB.out hb5).cell (p := ⟨ob, oo + i * 11 + 6, none⟩) hob).trans (hat2 6 (by omega))
        have yg : W5.cell? ⟨gb, go + i, none⟩ = some (.int .i64 g0) := by rw [← hg0]; exact ((below_next HBB.out hb5).cell (p := ⟨gb, go + i, none⟩) hgb).trans (hgc i (by have := HGL.out; omega))
        have ym : W5.cell? ⟨w3.heap.size, 3, none⟩ = some (.int .i64 mm) := (HX.out W5 ((hb5.block _ (Array.getElem?_eq_some_iff.1 HD.out).1).trans HD.out)).2.1
        have HB5 := Lib.hid (below_next HB.out hb5)
        have HYY := Lib.hid hyy
        have HVV := Lib.hid hv
        have HDD := Lib.hid hd0
        unfold rngL at hnum hgr
        rw [hxx, hww, hh0, hd0] at hnum
        rw [hg0] at hgr
        rw [hv] at hvb
        rw [hyy] at hyb
        rw [hv, hg0, hyy, hh0] at hgap
        rw [hxx, hww] at hmr
        have s1 : IntKind.i64.wrap (v - g0) = yy + h0 := by rw [hgap]; exact IntWalk.i64_in _ (by omega)
        have s2 : IntKind.i64.wrap (yy + h0) = yy + h0 := IntWalk.i64_in _ (by omega)
        have s3 : IntKind.i64.wrap (xx + ww) = xx + ww := IntWalk.i64_in _ (by omega)
        have s4 : IntKind.i64.wrap (yy - d0) = yy - d0 := IntWalk.i64_in _ (by omega)
        have o1 : ¬ mm < xx + ww := by omega
        have HSN : Hid (yy - d0 = stkY l g nb (i + 1)) := by
          show yy - d0 = colY l g nb i - (kidAt l i).d
          rw [HYY.out, HDD.out]
        rw [hv]
        clear hat hat2 hgc hgap hvb hyb hnum hgr hxx hww hh0 hd0 hg0 hyy hv n5 hb5
        go_wp2_with (first
          | ((with_reducible refine at_load 27 ?_); go_loud (refine wpList_load_all i1 11 hi1 hy1 _ Try.underlying27 rfl rfl HC.out ?_)))
        go_quiet (fail)
        go_wp2_with fail
        go_roundw
        case rel => exact ⟨i + 1, by omega, by go_num, by rw [HSN.out], below_drewN HB5.out nq⟩
        case measure => simp [intOf]; omega
      · obtain rfl : i = l.length := by omega
        rw [HNM.out.2.1]
        have s5 : IntKind.i64.wrap (-dd) = -dd := by
          have h1 := stkY_bound HAV.out HGO.out HGL.out HHL.out hnb (i := l.length) (Nat.le_refl _)
          rw [HNM.out.2.1] at h1
          exact IntWalk.i64_in _ (by omega)
        go_wp2
        go_ret
        exact ⟨rfl, HBB.out⟩
end Go.Proofs.Ytonahgdchngabaa
