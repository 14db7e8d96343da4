/- deep.Box: its contract: a copy that shares no memory with what came in. -/
import Derived.Test.YtlgnghehgcoccaaBoxDeepW
import Derived.Test.YtlgnghehgcoccaaBoxPair
namespace Go.Proofs.Ytlgnghehgcoccaa
open Go.RowKit Go.Deep
set_option maxRecDepth 100000 in
set_option maxHeartbeats 4000000 in
theorem deep_any (t : Bx) (A : Option Addr) (c : Nat) (A' : Option Addr) (c' : Nat) (w : World) (hl : lens t) (hf : fitB t) (hc : cntB t ≤ 100000) (hK : Kids w 0 w.heap.size A t.kids) (hI : Ints w 0 w.heap.size A' t.src) :
    Calls Try.prog 29 #[.agg (bxA t A c A' c')] w fun e w' => (∃ A2 c2 A3 c3, e = .returned (.agg (bxA t A2 c2 A3 c3)) ∧ Kids w' w.heap.size w'.heap.size A2 t.kids ∧ Ints w' w.heap.size w'.heap.size A3 t.src) ∧ Below w.heap.size w w' := by
  obtain ⟨i0, hi0, hz0, hz1, hz2⟩ := info_parts infoPtr
  obtain ⟨i1, hi1, hy0, hy1, hy2⟩ := info_parts infoBox
  have HL := Lib.hid hl
  have HF := Lib.hid hf
  have HCN := Lib.hid hc
  have HK0 := Lib.hid (And.intro hK hI)
  clear hl hf hc hK hI
  go_enter Try.func29, Try.ntmps29
  go_wp2_with fail
  obtain ⟨d0, d1, d2, hsz, hb⟩ := three_blocks w (bxA t A c A' c') zeroBox #[.pointer (some ⟨w.heap.size, 0, none⟩)] 25 25 48
  generalize (((w.alloc (.cells (bxA t A c A' c') 25)).alloc (.cells zeroBox 25)).alloc (.cells #[.pointer (some ⟨w.heap.size, 0, none⟩)] 48)) = Wi at d0 d1 d2 hsz hb ⊢
  have HRD : Hid (RD w Wi t (cntB t) (.slice (some ⟨w.heap.size + 2, 0, none⟩) 1 1) Wi) := by
    refine ⟨[(w.heap.size, 0, t)], w.heap.size + 2, 1, rfl, own_one (size := 1) d2 rfl, ⟨fun e he => ?_, fun e he => ?_, fun e he => ?_, List.pairwise_singleton _ _, d1, hb, Nat.le_refl _, by omega, fun wf h => h⟩, cntN_one _, HCN.out⟩
    all_goals (obtain rfl : e = (w.heap.size, 0, t) := by simpa using he)
    · exact ⟨A, c, A', c', ⟨_, _, d0, by show 0 + 11 ≤ 11; omega, fun j hj => by rw [Nat.zero_add]⟩, HK0.out.1, HK0.out.2, HL.out, Nat.le_refl _⟩
    · exact HF.out
    · exact ⟨by show w.heap.size ≠ _; omega, by show w.heap.size ≠ _; omega⟩
  have HSZ := Lib.hid hsz
  clear d0 d1 d2 hsz hb HK0
  go_loopw [3] (fun l wr => ∃ N, RD w Wi t N l wr) (fun l wr => leastN (fun N => RD w Wi t N l wr))
  case atStart => exact ⟨_, HRD.out⟩
  case round =>
    have hle := leastN_at hrel
    clear hrel
    generalize hN : leastN _ = N at hle
    obtain ⟨E, g, cp, rfl, hrow, hds, hcnt, hN1⟩ := hle
    by_cases h0 : 0 < E.length
    case neg =>
      obtain rfl : E = [] := List.eq_nil_of_length_eq_zero (by omega)
      have hfin := hds.fin wr (Fin.nil _ _ _)
      obtain ⟨A2, c2, A3, c3, hat, hk, hi⟩ := hfin.deep (w.heap.size, 0, t) (by simp)
      have HC0 : Hid (∀ j, j < 11 → wr.cell? ⟨w.heap.size, 0 + j, none⟩ = (bxA t A2 c2 A3 c3)[j]?) := hat
      have D1 := Lib.hid hds.res
      have HB := Lib.hid hds.bel
      have HKI := Lib.hid (And.intro hk hi)
      clear hrow hds hcnt hN hN1 h0 hfin hat hk hi
      go_wp2_with (first
        | ((with_reducible refine at_load 25 ?_); go_loud (refine wpList_load_all i1 11 hi1 hy1 _ Try.underlying25 rfl rfl HC0.out ?_))
        | ((with_reducible refine at_store 25 ?_); go_loud (refine wpList_store_all i1 11 hi1 hy1 rfl rfl rfl D1.out (by decide) (bxA_one _ _ _ _ _) ?_); rw [row_all _ _ rfl rfl]))
      refine bodyPost_ret (results_cell_all rfl _ i1 11 hi1 hy1 _ Try.underlying25 rfl rfl (fun j _ => by rw [Nat.zero_add]; exact cell_setRow_same _ _ _ _ _ _ _ D1.out)) rfl ?_
      have hsame : ∀ b o, w.heap.size + 2 ≤ b → b < wr.heap.size → (wr.setRow (w.heap.size + 1) (bxA t A2 c2 A3 c3)).cell? ⟨b, o, none⟩ = wr.cell? ⟨b, o, none⟩ := fun b o h1 _ => cell_setRow_other _ _ _ _ (by show b ≠ _; omega)
      exact ⟨⟨A2, c2, A3, ⟨c3, rfl⟩, (HKI.out.1.same hsame).mono (by omega) (by simp), (Ints.same HKI.out.2 hsame).mono (by omega) (by simp)⟩, below_setRow HB.out (by omega) _⟩
    obtain ⟨E', p, rfl⟩ : ∃ E' p, E = E' ++ [p] := ⟨E.dropLast, E.getLast (by intro e; subst e; simp at h0), (List.dropLast_concat_getLast _).symm⟩
    obtain ⟨b, o, u⟩ := p
    obtain ⟨m, hm⟩ : ∃ m, E'.length = m := ⟨_, rfl⟩
    have hlE : (E' ++ [((b, o, u) : Node)]).length = m + 1 := by rw [List.length_append, hm]; rfl
    rw [List.map_append] at hrow
    obtain ⟨gb, e, hgb, hgl, hcap, hcell⟩ := own_cell hrow h0
    injection e with e
    injection e with e
    subst e
    have hx1 : wr.cell? ⟨g, m, none⟩ = some (.pointer (some ⟨b, o, none⟩)) := hcell m _ (by rw [← hm]; simp [ptrN])
    have htk := own_take hrow (m := m) (by rw [hlE]; omega) (by simp)
    rw [show (E'.map ptrN ++ [((b, o, u) : Node)].map ptrN).take (m * 1) = E'.map ptrN by rw [Nat.mul_one, ← hm]; simp] at htk
    rw [hlE] at hcap hN ⊢
    obtain ⟨A1, c1, A2, c2, hin, hk1, hi1, hl1, hb1⟩ := hds.pend (b, o, u) (List.mem_append_right _ (by simp))
    have hfu := hds.fit (b, o, u) (List.mem_append_right _ (by simp))
    have HCN1 : Hid (cntN E' + cntB u = N) := by rw [← hcnt, cntN_append, cntN_one]; exact rfl
    have hmb : m ≤ 100000 := by have := cntN_len E'; have := HCN1.out; omega
    have e8 : wr.cell? ⟨b, o + 8, none⟩ = some (.slice A1 u.kids.length c1) := hin.cell (j := 8) (show 8 < 11 by omega)
    have e10 : wr.cell? ⟨b, o + 10, none⟩ = some (.slice A2 u.src.length c2) := hin.cell (j := 10) (show 10 < 11 by omega)
    have hsub : IntKind.i64.wrap (((m + 1 : Nat) : Int) - 1) = (m : Int) := by rw [IntWalk.i64_in _ (by omega)]; omega
    have HIN := Lib.hid hin
    have HK1 := Lib.hid (And.intro hk1 (And.intro hi1 (And.intro hl1 (And.intro hb1 hfu))))
    have HDS := Lib.hid hds
    have HTK := Lib.hid htk
    have HN := Lib.hid hN
    have HM := Lib.hid hm
    have HN1 := Lib.hid hN1
    clear hrow hds hcnt hN hN1 hcell htk hm hlE hin hk1 hi1 hl1 hb1 hfu
    go_wp2_with fail
    have hu : u.src.length ≤ 17592186044416 := ((fitB_eq u).1 HK1.out.2.2.2.2).1
    refine (clone_fit A2 c2 u.src wr hu ((HK1.out.2.1.below HDS.out.bel).mono (Nat.le_refl _) HDS.out.bel.size)).mono ?_
    rintro e w1 ⟨⟨A3, c3, rfl, hI3⟩, hb3⟩
    have hin1 : In w1 b o (bxA u A1 c1 A2 c2) := HIN.out.keep (hb3.block _ HIN.out.lt)
    have y10 : w1.cell? ⟨b, o + 10, none⟩ = some (.slice A2 u.src.length c2) := hin1.cell (j := 10) (show 10 < 11 by omega)
    have z10 := hin1.free (o + 10)
    have hin2 := hin1.store (k := 10) (show 10 < 11 by omega) (.slice A3 u.src.length c3)
    have y8 : (w1.setCell ⟨b, o + 10, none⟩ (.slice A3 u.src.length c3)).cell? ⟨b, o + 8, none⟩ = some (.slice A1 u.kids.length c1) := hin2.cell (j := 8) (by rw [Array.size_setIfInBounds]; exact (show 8 < 11 by omega))
    have z8 := hin2.free (o + 8)
    have HI3 := Lib.hid hI3
    have HB3 := Lib.hid hb3
    clear hI3 hb3 hin1 hin2 hx1 e8 e10 hu
    have hsz1 : (Try.prog.info? 25).map (·.size) = some 11 := by rw [hi1]; simp [hy1]
    have hsz1' : ((Try.prog.info? 25).map (·.size)).isSome = true := by rw [hsz1]; rfl
    obtain ⟨n, hn⟩ : ∃ n, u.kids.length = n := ⟨_, rfl⟩
    have HNK := Lib.hid hn
    rw [hn] at y8 ⊢
    clear hn
    by_cases hn0 : n = 0
    · subst hn0
      have HIT : Hid (It w wr (W2of w1 (b, o, u) A3 c3) (b, o, u) 0 none 0 A3 c3) := it0 HIN.out HNK.out HB3.out HI3.out HDS.out.bel HK1.out.2.2.2.1
      have x8 : ((w1.setCell ⟨b, o + 10, none⟩ (.slice A3 u.src.length c3)).setCell ⟨b, o + 8, none⟩ (.slice none 0 0)).cell? ⟨b, o + 8, none⟩ = some (.slice none 0 0) := World.cell?_setCell_same' _ _ _ (by rw [y8]; rfl)
      go_wp2_with ((with_reducible refine at_call .copy ?_); go_loud (refine wpList_copy_zero rfl _ _ 22 22 rfl 25 Try.underlying22 hsz1' A1 c1 rfl rfl ?_))
      have HO2 : Hid ((W2of w1 (b, o, u) A3 c3).ownsRow (w.heap.size + 2) 48 1 (.slice (some ⟨g, 0, none⟩) m cp) m (E'.map ptrN)) := own_keep HTK.out (HIT.out.block g HDS.out.glt (fun e => (HDS.out.ng (b, o, u) (List.mem_append_right _ (by simp))).1 e.symm))
      change Code.wp _ _ _ _ (W2of w1 (b, o, u) A3 c3)
      generalize W2of w1 (b, o, u) A3 c3 = W2 at HIT HO2 x8 ⊢
      have HRD2 : Hid (RD w Wi t (cntN E') (.slice (some ⟨g, 0, none⟩) m cp) W2) := by
        have hk : kidN 0 u.kids = [] := by unfold kidN; rw [HNK.out]; rfl
        have hd := HDS.out.next HIT.out (Gr.refl g W2) (.inl rfl) (Nat.lt_of_lt_of_le HDS.out.glt HIT.out.size)
        rw [show kidN 0 ((b, o, u) : Node).2.2.kids = [] from hk, List.append_nil] at hd
        exact ⟨E', g, cp, by rw [HM.out], by rw [HM.out]; exact HO2.out, hd, rfl, by have := HCN1.out; have := HN1.out; omega⟩
      have HLT : Hid (cntN E' < N) := by have := HCN1.out; have := cntB_pos u; show _ < _; omega
      go_loopw [57, 3] (fun q l wx => q = .int .i64 0 ∧ l = .slice (some ⟨g, 0, none⟩) m cp ∧ wx = W2) (fun _ _ _ => 0)
      case atStart => exact ⟨rfl, rfl, rfl⟩
      case round =>
        obtain ⟨rfl, rfl, rfl⟩ := hrel
        go_wp2_with fail
        exact ⟨⟨_, HRD2.out⟩, Nat.lt_of_le_of_lt (leastN_le HRD2.out) (by rw [HN.out]; exact HLT.out)⟩
    · have hp0 : 0 < u.kids.length := by have := HNK.out; omega
      have hmk := make_boxes n (by have := HNK.out; have := cnt_len u.kids; have := cntB_eq u; have := HCN1.out; have := HN1.out; omega)
      have hnb : n ≤ 100000 := by have := HNK.out; have := cnt_len u.kids; have := cntB_eq u; have := HCN1.out; have := HN1.out; omega
      obtain ⟨K, C, K', C', hA, hKK⟩ := kids_out HK1.out.1
      obtain ⟨kb, ko, rfl, _, hkb, hkc⟩ := hA hp0
      obtain ⟨x8, z8', v8, hgk, hb4⟩ := w3_facts (p := (b, o, u)) (A3 := A3) (c3 := c3) HIN.out HB3.out HDS.out.bel HK1.out.2.2.2.1 (madeCells zeroBox (n * 11)) 25 (.slice (some ⟨w1.heap.size, 0, none⟩) n n)
      change (((w1.setCell ⟨b, o + 10, none⟩ (.slice A3 u.src.length c3)).setCell ⟨b, o + 8, none⟩ (.slice none 0 0)).alloc (.cells (madeCells zeroBox (n * 11)) 25)).cell? ⟨b, o + 8, none⟩ = _ at x8
      change (((w1.setCell ⟨b, o + 10, none⟩ (.slice A3 u.src.length c3)).setCell ⟨b, o + 8, none⟩ (.slice none 0 0)).alloc (.cells (madeCells zeroBox (n * 11)) 25)).frozen? ⟨b, o + 8, none⟩ = _ at z8'
      change ((((w1.setCell ⟨b, o + 10, none⟩ (.slice A3 u.src.length c3)).setCell ⟨b, o + 8, none⟩ (.slice none 0 0)).alloc (.cells (madeCells zeroBox (n * 11)) 25)).setCell ⟨b, o + 8, none⟩ (.slice (some ⟨w1.heap.size, 0, none⟩) n n)).cell? ⟨b, o + 8, none⟩ = _ at v8
      have HGK := Lib.hid hgk
      have HB4 := Lib.hid hb4
      have hcl : (kidCells u.kids K C K' C').length = n * 11 := by rw [kidCells_len, HNK.out]
      have hzl : (madeCells zeroBox (n * 11)).size = n * 11 := by simp [madeCells]
      have HSRC : Hid (∀ j v, (kidCells u.kids K C K' C')[j]? = some v → ((((w1.setCell ⟨b, o + 10, none⟩ (.slice A3 u.src.length c3)).setCell ⟨b, o + 8, none⟩ (.slice none 0 0)).alloc (.cells (madeCells zeroBox (n * 11)) 25)).setCell ⟨b, o + 8, none⟩ (.slice (some ⟨w1.heap.size, 0, none⟩) n n)).cell? ((⟨kb, ko, none⟩ : Addr).add j) = some v) :=
        kid_src fun i hi j hj => (HB4.out.cell (p := ⟨kb, ko + i * 11 + j, none⟩) hkb).trans (hkc i hi j hj)
      have HIT : Hid (It w wr (W4of w1 (b, o, u) A3 c3 n (madeCells zeroBox (n * 11)) (kidCells u.kids K C K' C').toArray 25) (b, o, u) w1.heap.size (some ⟨w1.heap.size, 0, none⟩) n A3 c3) :=
        it1 HIN.out HNK.out HB3.out HI3.out HDS.out.bel HK1.out.2.2.2.1 (by simpa using hcl) (fun i hi j hj => by rw [List.getElem?_toArray]; exact kidCells_at K C K' C' (by show i < u.kids.length; rw [HNK.out]; exact hi) hj) (fun i hi => hKK i (by rw [HNK.out]; exact hi))
      have HCL := Lib.hid (And.intro hcl hzl)
      have x4 : (W4of w1 (b, o, u) A3 c3 n (madeCells zeroBox (n * 11)) (kidCells u.kids K C K' C').toArray 25).cell? ⟨b, o + 8, none⟩ = some (.slice (some ⟨w1.heap.size, 0, none⟩) n n) := by
        have h := HIT.out.own.cell (j := 8) (show 8 < 11 by omega)
        have h2 : (bxA u (some ⟨w1.heap.size, 0, none⟩) n A3 c3)[8]? = some (.slice (some ⟨w1.heap.size, 0, none⟩) u.kids.length n) := rfl
        rw [HNK.out] at h2
        exact h.trans h2
      have hsize : Hid (w1.heap.size < (W4of w1 (b, o, u) A3 c3 n (madeCells zeroBox (n * 11)) (kidCells u.kids K C K' C').toArray 25).heap.size) := by show _ < _; simp [W4of, W2of]
      clear hA hkc hgk hb4 hcl hzl hKK
      go_wp2_with ((with_reducible refine at_call .copy ?_); go_loud (refine wpList_copy_el rfl _ _ 22 22 rfl 25 11 Try.underlying22 hsz1 w1.heap.size 0 n n ⟨kb, ko, none⟩ n c1 rfl rfl _ _ HGK.out (kidCells u.kids K C K' C') (by rw [HCL.out.1]; show _ = min n n * 11; rw [Nat.min_self]) HSRC.out (by have := HCL.out; omega) kidCells_one ?_); rw [row_copy _ _ (by have := HCL.out; omega)]; change wpList _ _ _ _ _ (W4of w1 (b, o, u) A3 c3 n (madeCells zeroBox (n * 11)) (kidCells u.kids K C K' C').toArray 25); generalize W4of w1 (b, o, u) A3 c3 n (madeCells zeroBox (n * 11)) (kidCells u.kids K C K' C').toArray 25 = W4 at HIT hsize x4 ⊢)
      have hn4 : Hid (b ≠ g ∧ b < W4.heap.size) := ⟨(HDS.out.ng (b, o, u) (List.mem_append_right _ (by simp))).1, HIT.out.own.lt⟩
      have HO2 : Hid (W4.ownsRow (w.heap.size + 2) 48 1 (.slice (some ⟨g, 0, none⟩) m cp) m (E'.map ptrN)) := own_keep HTK.out (HIT.out.block g HDS.out.glt (fun e => hn4.out.1 e.symm))
      have hg4 : Hid (g < W4.heap.size ∧ w.heap.size + 2 ≤ W4.heap.size) := by
        have h1 := HIT.out.size
        have h2 := HDS.out.glt
        exact ⟨by omega, by omega⟩
      have X4 := Lib.hid x4
      obtain ⟨gk, hgk⟩ : ∃ gk, w1.heap.size = gk := ⟨_, rfl⟩
      rw [hgk] at HIT hsize X4
      clear hgk x4 v8 x8 z8' HGK HB4 HSRC HIN
      go_loopw [57, 3] (fun q l wx => ∃ (i gx cx : Nat), i ≤ n ∧ q = .int .i64 (i : Int) ∧ l = .slice (some ⟨gx, 0, none⟩) (m + i) cx ∧ wx.ownsRow (w.heap.size + 2) 48 1 (.slice (some ⟨gx, 0, none⟩) (m + i) cx) (m + i) (E'.map ptrN ++ kp gk i) ∧ Gr g W4 wx ∧ (gx = g ∨ W4.heap.size ≤ gx)) (fun q _ _ => n - (intOf q).toNat)
      case atStart => exact ⟨0, g, cp, Nat.zero_le _, rfl, rfl, by rw [kp_zero, List.append_nil]; exact HO2.out, Gr.refl _ _, .inl rfl⟩
      case round =>
        obtain ⟨i, gx, cx, hi, rfl, rfl, hrow, hgr, hgx⟩ := hrel
        rename World => wx
        have HO := Lib.hid hrow
        have HG := Lib.hid hgr
        have HGX := Lib.hid hgx
        clear hrow hgr hgx
        by_cases hlt : i < n
        · have x8 : wx.cell? ⟨b, o + 8, none⟩ = some (.slice (some ⟨gk, 0, none⟩) n n) := (HG.out.cell hn4.out.2 hn4.out.1 _).trans X4.out
          have HKS : Hid (kp gk (i + 1) = kp gk i ++ [.pointer (some ⟨gk, i * 11, none⟩)]) := kp_succ _ _
          have hbs : Hid (w.heap.size + 2 ≤ wx.heap.size) := Nat.le_trans hg4.out.2 HG.out.size
          go_wp2_with (at_builtin; go_loud (refine wpList_append_gr rfl _ _ 61 48 rfl i0 _ 1 8 Try.underlying61 hi0 hz0 hz1 hz2 rfl (by omega) rfl (own_below HO.out (one_below _ _)) rfl (heap_alloc_new _ _) rfl (fun u hu => by simp at hu; subst hu; rfl) (by unfold maxLen; omega) (by omega) (by have := hbs.out; simp; omega) ?_); intro g5 c5 w5 hown5 hgr5 hg5; have HO5 := Lib.hid hown5; have HG5 := Lib.hid hgr5; have HE5 := Lib.hid hg5; clear hown5 hgr5 hg5)
          have HGR : Hid (Gr g W4 w5) := (HG.out.trans (gr_alloc g _ _) (.inl rfl)).trans HG5.out HGX.out
          have HGE : Hid (g5 = g ∨ W4.heap.size ≤ g5) := by
            have h1 := HE5.out
            have h2 := HGX.out
            have h3 := HG.out.size
            rw [World.size_alloc] at h1
            show _ ∨ _
            omega
          go_roundw
          case rel => exact ⟨i + 1, g5, c5, by omega, by go_num, rfl, by rw [HKS.out, ← List.append_assoc]; exact HO5.out, HGR.out, HGE.out⟩
          case measure => simp [intOf]; omega
        · obtain rfl : i = n := by omega
          have HRD2 : Hid (RD w Wi t (cntN (E' ++ kidN gk u.kids)) (.slice (some ⟨gx, 0, none⟩) (m + i) cx) wx) := by
            have hlen : (E' ++ kidN gk u.kids).length = m + i := by rw [List.length_append, kidN_len, HM.out, HNK.out]
            have hptr : (E' ++ kidN gk u.kids).map ptrN = E'.map ptrN ++ kp gk i := by rw [List.map_append, kp_kidN, HNK.out]
            obtain ⟨_, e5, _, h5, _⟩ := own_cell HO.out (by omega)
            injection e5 with e5
            injection e5 with e5
            subst e5
            refine ⟨E' ++ kidN gk u.kids, gx, cx, by rw [hlen], by rw [hlen, hptr]; exact HO.out, HDS.out.next HIT.out HG.out HGX.out h5, rfl, ?_⟩
            have := HCN1.out
            have := HN1.out
            have := cntB_eq u
            rw [cntN_append, cntN_kidN]
            omega
          have HLT : Hid (cntN (E' ++ kidN gk u.kids) < N) := by
            have := HCN1.out
            have := cntB_eq u
            show _ < _
            rw [cntN_append, cntN_kidN]
            omega
          go_wp2_with fail
          exact ⟨⟨_, HRD2.out⟩, Nat.lt_of_le_of_lt (leastN_le HRD2.out) (by rw [HN.out]; exact HLT.out)⟩
end Go.Proofs.Ytlgnghehgcoccaa
