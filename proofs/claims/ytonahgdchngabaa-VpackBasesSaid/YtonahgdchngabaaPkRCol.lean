/- The reference's Column: the walk. -/
import Derived.Test.YtonahgdchngabaaPkCol
import Derived.Test.YtonahgdchngabaaPkDown
namespace Go.Proofs.Ytonahgdchngabaa
open Go.RowKit
/-- The cells of the list under work. -/
abbrev olB (W H D : Int) (A : Option Addr) (n c : Nat) : Array Value :=
  #[.int .i64 3, .string ⟨#[]⟩, .int .i64 0, .int .i64 W, .int .i64 H, .int .i64 D, .int .i64 0, .int .i64 0, .slice A n c, .int .i64 0, .slice none 0 0]
def olH (l : List Bx) (g : List Int) (b : Nat) : Nat → Int
  | 0 => 0
  | _ + 1 => colY l g b 0 + (kidAt l 0).h + lAt g 0
def olD (l : List Bx) (g : List Int) (b : Nat) : Nat → Int
  | 0 => 0
  | i + 1 => (kidAt l i).d - colY l g b i
/-- The list after i kids. -/
structure RS (w : World) (l : List Bx) (g : List Int) (b s i : Nat) (A : Option Addr) (cx : Nat) (Q : List Q5) (W : World) : Prop where
  map : Q.map Q5.t = (movedY l (colY l g b)).take i
  lies : ∀ q ∈ Q, Lies w 0 w.heap.size q
  box : W.heap[s]? = some (.cells (olB (maxR l i) (olH l g b i) (olD l g b i) A i cx) 27 (0, 0))
  own : W.ownsRow (s + 1) 27 11 (.slice A i cx) i (rowC Q)
  zero : W.heap[w.heap.size]? = some (.cells zeroBox 27 (0, 0))
  bel : Below w.heap.size w W
theorem RS.kids {w : World} {l : List Bx} {g : List Int} {b s : Nat} {A : Option Addr} {cx : Nat} {Q : List Q5} {W : World} (h : RS w l g b s l.length A cx Q W) : Kids W 0 W.heap.size A (movedY l (colY l g b)) := by
  have hm := h.map
  rw [← movedY_len l (colY l g b), List.take_length] at hm
  by_cases h0 : 0 < l.length
  · obtain ⟨g1, rfl, h1, h2, h3, h4⟩ := own_cell h.own h0
    rw [← hm]
    exact kids_row (fun k u hu => by rw [Nat.zero_add]; exact h4 k u hu) (Nat.zero_le _) h2 fun q hq => ⟨(h.lies q hq).1.next h.bel, (h.lies q hq).2.1.next h.bel, (h.lies q hq).2.2⟩
  · have : movedY l (colY l g b) = [] := List.eq_nil_of_length_eq_zero (by rw [movedY_len]; omega)
    rw [this]
    exact Kids.nil _ _ _ _
theorem own_same {w w' : World} {base n c size : Nat} {e : TypeId} {A : Option Addr} {xs : List Value} (h : w.ownsRow base e size (.slice A n c) n xs) (hb : ∀ k, base ≤ k → k < w.heap.size → w'.heap[k]? = w.heap[k]?) : w'.ownsRow base e size (.slice A n c) n xs := by
  obtain ⟨h1, h2⟩ := h
  refine ⟨h1, ?_⟩
  rcases h2 with h2 | ⟨g', cap, cur, h3, h4, h5, h6⟩
  · exact .inl h2
  · exact .inr ⟨_, _, cur, h3, h4, (hb g' h4 (Array.getElem?_eq_some_iff.1 h5).1).trans h5, h6⟩
theorem RS.kids2 {w : World} {l : List Bx} {g : List Int} {b s : Nat} {A : Option Addr} {cx : Nat} {Q : List Q5} {W W' : World} (h : RS w l g b s l.length A cx Q W) (hb : Below w.heap.size w W') (_hs : W.heap.size ≤ W'.heap.size) (hW : ∀ k, s + 1 ≤ k → k < W.heap.size → W'.heap[k]? = W.heap[k]?) : Kids W' 0 W'.heap.size A (movedY l (colY l g b)) := by
  have hm := h.map
  rw [← movedY_len l (colY l g b), List.take_length] at hm
  by_cases h0 : 0 < l.length
  · obtain ⟨g1, rfl, h1, h2, h3, h4⟩ := own_cell (own_same h.own hW) h0
    rw [← hm]
    exact kids_row (fun k u hu => by rw [Nat.zero_add]; exact h4 k u hu) (Nat.zero_le _) h2 fun q hq => ⟨(h.lies q hq).1.next hb, (h.lies q hq).2.1.next hb, (h.lies q hq).2.2⟩
  · have : movedY l (colY l g b) = [] := List.eq_nil_of_length_eq_zero (by rw [movedY_len]; omega)
    rw [this]
    exact Kids.nil _ _ _ _
theorem olB_col {l : List Bx} {g : List Int} {nb : Nat} {A : Option Addr} {cx : Nat} (h : 0 < l.length) : olB (maxR l l.length) (olH l g nb l.length) (olD l g nb l.length) A l.length cx = bxA (colB l g nb) A cx none 0 := by
  have hlen := movedY_len l (colY l g nb)
  have e1 : olH l g nb l.length = colY l g nb 0 + (kidAt l 0).h + lAt g 0 := by
    cases hn : l.length with
    | zero => omega
    | succ n => rfl
  have e2 : olD l g nb l.length = (kidAt l (l.length - 1)).d - colY l g nb (l.length - 1) := by
    cases hn : l.length with
    | zero => omega
    | succ n => rfl
  have e3 : bxA (colB l g nb) A cx none 0 = #[.int .i64 3, .string ⟨#[]⟩, .int .i64 0, .int .i64 (maxR l l.length), .int .i64 (colY l g nb 0 + (kidAt l 0).h + lAt g 0), .int .i64 ((kidAt l (l.length - 1)).d - colY l g nb (l.length - 1)), .int .i64 0, .int .i64 0, .slice A (movedY l (colY l g nb)).length cx, .int .i64 0, .slice none 0 0] := rfl
  rw [e3, hlen, e1, e2]
theorem colB_lens {l : List Bx} {g : List Int} {nb : Nat} (h : l.length ≤ 1000) (hc : cntL l ≤ 1000) : lens (colB l g nb) ∧ cntB (colB l g nb) ≤ 1001 := by
  refine ⟨⟨Nat.zero_le _, Nat.zero_le _, by show (movedY l (colY l g nb)).length ≤ _; rw [movedY_len]; unfold lenMax; omega⟩, ?_⟩
  rw [cntB_eq]
  show 1 + cntL (movedY l (colY l g nb)) ≤ 1001
  rw [movedY_cnt]
  omega
theorem RS.next {w : World} {l : List Bx} {g : List Int} {b s i : Nat} {A' : Option Addr} {cx : Nat} {Q : List Q5} {wx V3 w6 : World} {q : Q5} {A2 : Option Addr} {c2 : Nat} {o : Obj} (h : RS w l g b s i A' cx Q wx) (hi : i < l.length) (hs : w.heap.size + 1 ≤ s)
    (hV : ∀ k, k < wx.heap.size → k ≠ s → V3.heap[k]? = wx.heap[k]?) (hVs : V3.heap[s]? = some (.cells (olB (maxR l (i + 1)) (olH l g b (i + 1)) (olD l g b i) A' i cx) 27 (0, 0))) (hb3 : Below w.heap.size w V3) (hl : Lies w 0 w.heap.size q) (hq : q.t = (kidAt l i).atY (colY l g b i))
    (hown : w6.ownsRow (s + 1) 27 11 (.slice A2 (i + 1) c2) (i + 1) (rowC Q ++ q.cells)) (hb6 : Below (s + 1) ((V3.setCell ⟨s, 5, none⟩ (.int .i64 (olD l g b (i + 1)))).alloc o) w6) :
    RS w l g b s (i + 1) A2 c2 (Q ++ [q]) (w6.setCell ⟨s, 8, none⟩ (.slice A2 (i + 1) c2)) := by
  have hsw : s < wx.heap.size := (Array.getElem?_eq_some_iff.1 h.box).1
  have hv5 := blk_set hVs 5 (.int .i64 (olD l g b (i + 1)))
  have hsz : s < (V3.setCell ⟨s, 5, none⟩ (.int .i64 (olD l g b (i + 1)))).heap.size := (Array.getElem?_eq_some_iff.1 hv5).1
  have h6s : w6.heap[s]? = some (.cells (olB (maxR l (i + 1)) (olH l g b (i + 1)) (olD l g b (i + 1)) A' i cx) 27 (0, 0)) := (hb6.block s (by omega)).trans (blk_more hv5 _)
  have hlow : ∀ k, k < s → w6.heap[k]? = V3.heap[k]? := fun k hk => (hb6.block k (by omega)).trans ((Below.heap_alloc _ _ _ (by omega)).trans (Below.heap_setCell _ ⟨s, 5, none⟩ _ k (by show k ≠ s; omega)))
  refine ⟨?_, fun p hp => ?_, blk_set h6s 8 _, ?_, ?_, ?_⟩
  · rw [List.map_append, h.map, take_kid _ (by rw [movedY_len]; exact hi), movedY_at hi]
    simp [hq]
  · rcases List.mem_append.1 hp with h1 | h1
    · exact h.lies p h1
    · obtain rfl : p = q := by simpa using h1
      exact hl
  · rw [rowC_append, rowC_one]
    exact own_same hown fun k hk _ => Below.heap_setCell _ ⟨s, 8, none⟩ _ k (by show k ≠ s; omega)
  · refine (Below.heap_setCell _ ⟨s, 8, none⟩ _ _ (by show w.heap.size ≠ s; omega)).trans ((hlow _ (by omega)).trans ((hV _ (by omega) (by omega)).trans h.zero))
  · have h1 : Below w.heap.size w ((V3.setCell ⟨s, 5, none⟩ (.int .i64 (olD l g b (i + 1)))).alloc o) := (hb3.setCell (p := ⟨s, 5, none⟩) (by show w.heap.size ≤ s; omega) _).alloc (by have := (hb3.setCell (p := ⟨s, 5, none⟩) (by show w.heap.size ≤ s; omega) (.int .i64 (olD l g b (i + 1)))).size; exact this) o
    exact (h1.trans (hb6.mono (by omega))).setCell (p := ⟨s, 8, none⟩) (by show w.heap.size ≤ s; omega) _
set_option maxRecDepth 100000 in
set_option maxHeartbeats 4000000 in
theorem rcolumn_any (A : Option Addr) (l : List Bx) (c : Nat) (B : Option Addr) (g : List Int) (d : Nat) (b : Int) (w : World) (hc : cntL l ≤ 1000) (hg : g.length ≤ lenMax) (hK : Kids w 0 w.heap.size A l) (hI : Ints w 0 w.heap.size B g) :
    Calls Try.prog 11 #[.slice A l.length c, .slice B g.length d, .int .i64 b] w (ColPost l g b w) := by
  obtain ⟨i1, hi1, hy0, hy1, hy2⟩ := info_parts infoBox
  have HCN := Lib.hid hc
  have hl : l.length ≤ 1000 := by have := cnt_len l; omega
  have hg' : g.length ≤ 9223372036854775807 := hg
  have HK := Lib.hid (And.intro hK hI)
  clear hc hg hK hI
  go_enter Try.func11, Try.ntmps11
  go_wp2_with fail
  have d0 := blk_new w (.cells zeroBox 27)
  have hb := one_below w (.cells zeroBox 27)
  have hsz : (w.alloc (.cells zeroBox 27)).heap.size = w.heap.size + 1 := by simp
  change Code.wp _ _ _ _ (w.alloc (.cells zeroBox 27))
  generalize w.alloc (.cells zeroBox 27) = W0 at d0 hb hsz ⊢
  have HM : Hid (∀ W, Below W0.heap.size W0 W → W.heap[w.heap.size]? = some (.cells zeroBox 27 (0, 0)) ∧ Below w.heap.size w W) := fun W hW =>
    ⟨(hW.block _ (by omega)).trans d0, hb.trans (hW.mono (by omega))⟩
  have HSZ := Lib.hid hsz
  clear d0 hb hsz
  go_loopw [8] (fun q wr => ∃ i : Nat, i ≤ l.length ∧ q = .int .i64 (i : Int) ∧ (∀ k, k < i → validB (kidAt l k)) ∧ Below W0.heap.size W0 wr) (fun q _ => l.length - (intOf q).toNat)
  case atStart => exact ⟨0, Nat.zero_le _, rfl, fun k hk => absurd hk (Nat.not_lt_zero _), Below.refl _ _⟩
  case round =>
    obtain ⟨i, hi, rfl, hall, hbw⟩ := hrel
    have HALL := Lib.hid hall
    have HB := Lib.hid hbw
    obtain ⟨hz6, hbb⟩ := HM.out wr hbw
    have HZ := Lib.hid hz6
    have HBB := Lib.hid hbb
    clear hall hbw hz6 hbb
    by_cases hlt : i < l.length
    · obtain ⟨kb, ko, A1, c1, A2, c2, rfl, _, hkb, hat, hk1, hi1', hl1⟩ := HK.out.1.at hlt
      have HC : Hid (∀ j, j < 11 → wr.cell? ⟨kb, ko + i * 11 + j, none⟩ = (bxA (kidAt l i) A1 c1 A2 c2)[j]?) := fun j hj => (HBB.out.cell (p := ⟨kb, ko + i * 11 + j, none⟩) hkb).trans (hat j hj)
      obtain ⟨r, hr⟩ := bool_of (validB (kidAt l i))
      have HR := Lib.hid hr
      have HKI : Hid (Kids wr 0 wr.heap.size A1 (kidAt l i).kids ∧ Ints wr 0 wr.heap.size A2 (kidAt l i).src ∧ lens (kidAt l i)) := ⟨hk1.next HBB.out, hi1'.next HBB.out, hl1⟩
      clear hat hk1 hi1' hl1 hr
      go_wp2_with ((with_reducible refine at_load 27 ?_); go_loud (refine wpList_load_all i1 11 hi1 hy1 _ Try.underlying27 rfl rfl HC.out ?_))
      refine (rValid_any (kidAt l i) A1 c1 A2 c2 _ HKI.out.2.2 (by have := cnt_kid l hlt; have := HCN.out; omega) HR.out HKI.out.1 HKI.out.2.1).mono ?_
      rintro e w2 ⟨rfl, hb2⟩
      have HB2 := Lib.hid (below_next HB.out hb2)
      clear hb2
      cases r with
      | false =>
        have D6 := Lib.hid (HM.out w2 HB2.out)
        go_wp2_with ((with_reducible refine at_store 27 ?_); go_loud (refine wpList_store_all i1 11 hi1 hy1 rfl rfl rfl D6.out.1 (by decide) (bxA_one zeroBx none 0 none 0) ?_); rw [row_all _ _ rfl rfl])
        refine bodyPost_ret (results_cell_tmp rfl _ i1 11 hi1 hy1 _ Try.underlying27 rfl rfl (fun j _ => by rw [Nat.zero_add]; exact cell_setRow_same _ _ _ _ _ _ _ D6.out.1)) rfl ?_
        exact ColPost.zero (colE_1 fun h => by have := HR.out.2 (h i hlt); simp at this) (below_setRow D6.out.2 (Nat.le_refl _) _)
      | true =>
        have HVI : Hid (validB (kidAt l i)) := HR.out.1 rfl
        clear HR
        go_wp2_with fail
        go_roundw
        case rel => exact ⟨i + 1, by omega, by go_num, fun k hk => by
          rcases Nat.lt_succ_iff_lt_or_eq.1 hk with h | rfl
          · exact HALL.out k h
          · exact HVI.out, HB2.out⟩
        case measure => simp [intOf]; omega
    · obtain rfl : i = l.length := by omega
      have HAV : Hid (allV l) := HALL.out
      have D6 : Hid (wr.heap[w.heap.size]? = some (.cells zeroBox 27 (0, 0)) ∧ Below w.heap.size w wr) := ⟨HZ.out, HBB.out⟩
      by_cases hgl : g.length = l.length
      case neg =>
        have q0 : ¬ ((g.length : Int) = (l.length : Int)) := by omega
        have q1 : ((g.length : Int) != (l.length : Int)) = true := by simp; omega
        have HGL := Lib.hid hgl
        clear hgl
        go_wp2_with ((with_reducible refine at_store 27 ?_); go_loud (refine wpList_store_all i1 11 hi1 hy1 rfl rfl rfl D6.out.1 (by decide) (bxA_one zeroBx none 0 none 0) ?_); rw [row_all _ _ rfl rfl])
        refine bodyPost_ret (results_cell_tmp rfl _ i1 11 hi1 hy1 _ Try.underlying27 rfl rfl (fun j _ => by rw [Nat.zero_add]; exact cell_setRow_same _ _ _ _ _ _ _ D6.out.1)) rfl ?_
        exact ColPost.zero (colE_2 HAV.out fun h => HGL.out h.1) (below_setRow D6.out.2 (Nat.le_refl _) _)
      by_cases hb0 : 0 ≤ b
      case neg =>
        have HBN := Lib.hid hb0
        have q2 : b < 0 := by omega
        have HGL := Lib.hid hgl
        rw [hgl]
        clear hgl hb0
        go_wp2_with ((with_reducible refine at_store 27 ?_); go_loud (refine wpList_store_all i1 11 hi1 hy1 rfl rfl rfl D6.out.1 (by decide) (bxA_one zeroBx none 0 none 0) ?_); rw [row_all _ _ rfl rfl])
        refine bodyPost_ret (results_cell_tmp rfl _ i1 11 hi1 hy1 _ Try.underlying27 rfl rfl (fun j _ => by rw [Nat.zero_add]; exact cell_setRow_same _ _ _ _ _ _ _ D6.out.1)) rfl ?_
        exact ColPost.zero (colE_2 HAV.out fun h => by have := HBN.out; have := h.2.1; omega) (below_setRow D6.out.2 (Nat.le_refl _) _)
      by_cases hb1 : b < (l.length : Int)
      case neg =>
        have HBN := Lib.hid hb1
        have q2 : (l.length : Int) ≤ b := by omega
        have HGL := Lib.hid hgl
        rw [hgl]
        clear hgl hb1
        go_wp2_with ((with_reducible refine at_store 27 ?_); go_loud (refine wpList_store_all i1 11 hi1 hy1 rfl rfl rfl D6.out.1 (by decide) (bxA_one zeroBx none 0 none 0) ?_); rw [row_all _ _ rfl rfl])
        refine bodyPost_ret (results_cell_tmp rfl _ i1 11 hi1 hy1 _ Try.underlying27 rfl rfl (fun j _ => by rw [Nat.zero_add]; exact cell_setRow_same _ _ _ _ _ _ _ D6.out.1)) rfl ?_
        exact ColPost.zero (colE_2 HAV.out fun h => by have := HBN.out; have := h.2.2; omega) (below_setRow D6.out.2 (Nat.le_refl _) _)
      have HOK : Hid (colOk l g b) := ⟨hgl, hb0, hb1⟩
      have HGL := Lib.hid hgl
      rw [hgl]
      clear hgl
      go_wp2_with fail
      rename World => wa
      have HWA := Lib.hid HB.out
      clear HZ HBB D6 HB
      go_loopw [9] (fun q wr => ∃ i : Nat, i ≤ l.length ∧ q = .int .i64 (i : Int) ∧ (∀ k, k < i → rngL (lAt g k)) ∧ Below W0.heap.size W0 wr) (fun q _ => l.length - (intOf q).toNat)
      case atStart => exact ⟨0, Nat.zero_le _, rfl, fun k hk => absurd hk (Nat.not_lt_zero _), HWA.out⟩
      case round =>
        obtain ⟨i, hi, rfl, hall, hbw⟩ := hrel
        have HALG := Lib.hid hall
        have HB := Lib.hid hbw
        obtain ⟨hz6, hbb⟩ := HM.out wr hbw
        have HZ := Lib.hid hz6
        have HBB := Lib.hid hbb
        clear hall hbw hz6 hbb
        by_cases hlt : i < l.length
        · obtain ⟨gb, go, rfl, _, hgb, hgc⟩ := HK.out.2 (by have := HGL.out; omega)
          have yg := (HBB.out.cell (p := ⟨gb, go + i, none⟩) hgb).trans (hgc i (by have := HGL.out; omega))
          clear hgc
          obtain ⟨r, hr⟩ := bool_of (rngL (lAt g i))
          have HR := Lib.hid hr
          clear hr
          go_wp2_with fail
          refine (rlvalid_any (lAt g i) _ HR.out).mono ?_
          rintro e w2 ⟨rfl, rfl⟩
          cases r with
          | false =>
            have D6 : Hid (w2.heap[w.heap.size]? = some (.cells zeroBox 27 (0, 0)) ∧ Below w.heap.size w w2) := ⟨HZ.out, HBB.out⟩
            go_wp2_with ((with_reducible refine at_store 27 ?_); go_loud (refine wpList_store_all i1 11 hi1 hy1 rfl rfl rfl D6.out.1 (by decide) (bxA_one zeroBx none 0 none 0) ?_); rw [row_all _ _ rfl rfl])
            refine bodyPost_ret (results_cell_tmp rfl _ i1 11 hi1 hy1 _ Try.underlying27 rfl rfl (fun j _ => by rw [Nat.zero_add]; exact cell_setRow_same _ _ _ _ _ _ _ D6.out.1)) rfl ?_
            exact ColPost.zero (colE_3 HAV.out HOK.out fun h => by have := HR.out.2 (h i (by have := HGL.out; omega)); simp at this) (below_setRow D6.out.2 (Nat.le_refl _) _)
          | true =>
            have HVI : Hid (rngL (lAt g i)) := HR.out.1 rfl
            clear HR
            go_wp2_with fail
            go_roundw
            case rel => exact ⟨i + 1, by omega, by go_num, fun k hk => by
              rcases Nat.lt_succ_iff_lt_or_eq.1 hk with h | rfl
              · exact HALG.out k h
              · exact HVI.out, HB.out⟩
            case measure => simp [intOf]; omega
        · obtain rfl : i = l.length := by omega
          have HGO : Hid (gapsOk g) := fun k hk => HALG.out k (by have := HGL.out; omega)
          obtain ⟨nb, rfl⟩ : ∃ nb : Nat, b = (nb : Int) := ⟨b.toNat, by omega⟩
          have hnb : nb < l.length := by omega
          have HN10 := Lib.hid (blk_new wr (.cells zeroBox 27))
          clear HALG HALL
          go_wp2_with ((with_reducible refine at_store 27 ?_); go_loud (refine wpList_store_all i1 11 hi1 hy1 rfl rfl rfl HN10.out (by decide) (bxA_one (listP 0 0 0 []) none 0 none 0) ?_); rw [row_all _ _ rfl rfl])
          have HDW : Hid (∀ k, k < l.length → ∀ W', Below W0.heap.size W0 W' → Calls Try.prog 27 #[.slice A l.length c, .slice B l.length d, .int .i64 (k : Int)] W' fun e w' => e = .returned (.int .i64 (downI l g k)) ∧ Below W'.heap.size W' w') := fun k hk W' hb => by
            have hw := (HM.out W' hb).2
            have := rdown_any A c l B d g k W' hk hl HGL.out HAV.out HGO.out (HK.out.1.next hw) (HK.out.2.next hw)
            rw [HGL.out] at this
            exact this
          have HB9 : Hid (Below wr.heap.size wr ((wr.alloc (.cells zeroBox 27)).setRow wr.heap.size (bxA (listP 0 0 0 []) none 0 none 0))) := below_setRow (one_below _ _) (Nat.le_refl _) _
          have HD9 : Hid (((wr.alloc (.cells zeroBox 27)).setRow wr.heap.size (bxA (listP 0 0 0 []) none 0 none 0)).heap[wr.heap.size]? = some (.cells (olB 0 0 0 none 0 0) 27 (0, 0))) := setRow_at HN10.out _
          change Calls _ _ _ ((wr.alloc (.cells zeroBox 27)).setRow wr.heap.size (bxA (listP 0 0 0 []) none 0 none 0)) _
          generalize (wr.alloc (.cells zeroBox 27)).setRow wr.heap.size (bxA (listP 0 0 0 []) none 0 none 0) = w9 at HB9 HD9 ⊢
          obtain ⟨s, hs⟩ : ∃ s, wr.heap.size = s := ⟨_, rfl⟩
          refine (HDW.out nb hnb w9 (below_next HB.out HB9.out)).mono ?_
          rintro e w10 ⟨rfl, hb10⟩
          rw [hs] at HD9 HN10 ⊢
          have hsz := HSZ.out
          have hsl : w.heap.size + 1 ≤ s := by have := HB.out.size; omega
          have HRS : Hid (RS w l g nb s 0 none 0 [] w10) := by
            have hbw := below_next HB9.out hb10
            refine ⟨rfl, fun q hq => (by cases hq), (hb10.block s (Array.getElem?_eq_some_iff.1 HD9.out).1).trans HD9.out, ⟨rfl, .inl ⟨rfl, rfl⟩⟩, (hbw.block w.heap.size (by omega)).trans HZ.out, below_next HBB.out hbw⟩
          have HB10 : Hid (Below W0.heap.size W0 w10) := below_next HB.out (below_next HB9.out hb10)
          have hs10 : Hid (s < w10.heap.size) := (Array.getElem?_eq_some_iff.1 HRS.out.box).1
          have hdnb := down_bound HAV.out HGO.out HGL.out nb hnb
          clear hb10 HN10 HD9 HB9 hs hsz
          go_wp2_with fail
          go_loopw [12] (fun q wx => ∃ (i : Nat) (A' : Option Addr) (cx : Nat) (Q : List Q5), i ≤ l.length ∧ q = .int .i64 (i : Int) ∧ RS w l g nb s i A' cx Q wx ∧ Below W0.heap.size W0 wx) (fun q _ => l.length - (intOf q).toNat)
          case atStart => exact ⟨0, none, 0, [], Nat.zero_le _, rfl, HRS.out, HB10.out⟩
          case round =>
            obtain ⟨i, A', cx, Q, hi, rfl, hrs, hb0x⟩ := hrel
            rename World => wx
            have HR := Lib.hid hrs
            have HBX := Lib.hid hb0x
            clear hrs hb0x
            by_cases hlt : i < l.length
            · obtain ⟨kb, ko, A1, c1, A2, c2, rfl, _, hkb, hat, hk1, hi1', hl1⟩ := HK.out.1.at hlt
              have HC : Hid (∀ j, j < 11 → wx.cell? ⟨kb, ko + i * 11 + j, none⟩ = (bxA (kidAt l i) A1 c1 A2 c2)[j]?) := fun j hj => (HR.out.bel.cell (p := ⟨kb, ko + i * 11 + j, none⟩) hkb).trans (hat j hj)
              have HLI : Hid (Lies w 0 w.heap.size ⟨(kidAt l i).atY (colY l g nb i), A1, c1, A2, c2⟩) := ⟨hk1, hi1', hl1⟩
              have HN := Lib.hid (blk_new wx (.cells zeroBox 27))
              have HB13 : Hid (Below wx.heap.size wx ((wx.alloc (.cells zeroBox 27)).setRow wx.heap.size (bxA (kidAt l i) A1 c1 A2 c2))) := below_setRow (one_below _ _) (Nat.le_refl _) _
              have HD13 := Lib.hid (setRow_at HN.out (bxA (kidAt l i) A1 c1 A2 c2))
              clear hat hk1 hi1' hl1
              go_wp2_with (first
                | ((with_reducible refine at_load 27 ?_); go_loud (refine wpList_load_all i1 11 hi1 hy1 _ Try.underlying27 rfl rfl HC.out ?_))
                | ((with_reducible refine at_store 27 ?_); go_loud (refine wpList_store_all i1 11 hi1 hy1 rfl rfl rfl HN.out (by decide) (bxA_one _ _ _ _ _) ?_); rw [row_all _ _ rfl rfl]; change wpList _ _ _ _ _ ((wx.alloc (.cells zeroBox 27)).setRow wx.heap.size (bxA (kidAt l i) A1 c1 A2 c2)); generalize (wx.alloc (.cells zeroBox 27)).setRow wx.heap.size (bxA (kidAt l i) A1 c1 A2 c2) = w13 at HB13 HD13 ⊢))
              refine (HDW.out i hlt w13 (below_next HBX.out HB13.out)).mono ?_
              rintro e V0 ⟨rfl, hbV⟩
              have HV0 := Lib.hid (below_next HB13.out hbV)
              obtain ⟨p13, hp13⟩ : ∃ p, wx.heap.size = p := ⟨_, rfl⟩
              have h13 := (hbV.block _ (Array.getElem?_eq_some_iff.1 HD13.out).1).trans HD13.out
              have h10 := (HV0.out.block s (Array.getElem?_eq_some_iff.1 HR.out.box).1).trans HR.out.box
              have hsp : s < wx.heap.size := (Array.getElem?_eq_some_iff.1 HR.out.box).1
              rw [hp13] at h13 hsp ⊢
              clear hbV
              have hnum := HAV.out.num hlt
              have hcy := colY_bound HAV.out HGO.out HGL.out hl hnb hlt
              have hdi := down_bound HAV.out HGO.out HGL.out i hlt
              unfold rngL at hnum
              have e7 : V0.cell? ⟨p13, 7, none⟩ = some (.int .i64 (kidAt l i).y) := blk_cell h13 7 _ rfl
              have z7 := blk_free h13 7
              obtain ⟨y, hy⟩ : ∃ y, colY l g nb i = y := ⟨_, rfl⟩
              have sy : IntKind.i64.wrap (downI l g nb - downI l g i) = y := by rw [show downI l g nb - downI l g i = colY l g nb i from rfl, hy]; exact IntWalk.i64_in _ (by omega)
              rw [hy] at hcy
              have k13 : (V0.setCell ⟨p13, 7, none⟩ (.int .i64 y)).heap[p13]? = some (.cells (bxA ((kidAt l i).atY y) A1 c1 A2 c2) 27 (0, 0)) := blk_set h13 7 (.int .i64 y)
              have k10 := blk_far h10 (p := ⟨p13, 7, none⟩) (by show s ≠ p13; omega) (.int .i64 y)
              obtain ⟨xx, hxx⟩ : ∃ xx, (kidAt l i).x = xx := ⟨_, rfl⟩
              obtain ⟨ww, hww⟩ : ∃ ww, (kidAt l i).w = ww := ⟨_, rfl⟩
              obtain ⟨mm, hmm⟩ : ∃ mm, maxR l i = mm := ⟨_, rfl⟩
              obtain ⟨M, hM⟩ : ∃ M, maxR l (i + 1) = M := ⟨_, rfl⟩
              have hmx : (if mm < xx + ww then xx + ww else mm) = M := by rw [← hM, maxR, hmm, hxx, hww]; exact (max_if _ _).symm
              rw [hmm] at k10
              have a3 : (V0.setCell ⟨p13, 7, none⟩ (.int .i64 y)).cell? ⟨s, 3, none⟩ = some (.int .i64 mm) := blk_cell k10 3 _ rfl
              have b6 : (V0.setCell ⟨p13, 7, none⟩ (.int .i64 y)).cell? ⟨p13, 6, none⟩ = some (.int .i64 xx) := by rw [← hxx]; exact blk_cell k13 6 _ rfl
              have b3 : (V0.setCell ⟨p13, 7, none⟩ (.int .i64 y)).cell? ⟨p13, 3, none⟩ = some (.int .i64 ww) := by rw [← hww]; exact blk_cell k13 3 _ rfl
              have z3 := blk_free k10 3
              have sx : IntKind.i64.wrap (xx + ww) = xx + ww := by rw [← hxx, ← hww]; exact IntWalk.i64_in _ (by omega)
              have m10 : ((V0.setCell ⟨p13, 7, none⟩ (.int .i64 y)).setCell ⟨s, 3, none⟩ (.int .i64 M)).heap[s]? = some (.cells (olB M (olH l g nb i) (olD l g nb i) A' i cx) 27 (0, 0)) := blk_set k10 3 (.int .i64 M)
              have m13 := blk_far k13 (p := ⟨s, 3, none⟩) (by show p13 ≠ s; omega) (.int .i64 M)
              obtain ⟨hh, hhh⟩ : ∃ hh, (kidAt l i).h = hh := ⟨_, rfl⟩
              obtain ⟨dd, hdd⟩ : ∃ dd, (kidAt l i).d = dd := ⟨_, rfl⟩
              have HOLD : Hid (∀ k, k < p13 → k ≠ s → ((V0.setCell ⟨p13, 7, none⟩ (.int .i64 y)).setCell ⟨s, 3, none⟩ (.int .i64 M)).heap[k]? = wx.heap[k]?) := fun k h1 h2 =>
                (Below.heap_setCell _ ⟨s, 3, none⟩ _ k h2).trans ((Below.heap_setCell _ ⟨p13, 7, none⟩ _ k (by show k ≠ p13; omega)).trans (HV0.out.block k (by omega)))
              have HBE : Hid (Below W0.heap.size W0 ((V0.setCell ⟨p13, 7, none⟩ (.int .i64 y)).setCell ⟨s, 3, none⟩ (.int .i64 M))) := ((below_next HBX.out HV0.out).setCell (p := ⟨p13, 7, none⟩) (by show _ ≤ p13; have := HSZ.out; omega) _).setCell (p := ⟨s, 3, none⟩) (by show _ ≤ s; have := HSZ.out; omega) _
              have hnum2 : (-1073741824 ≤ hh ∧ hh ≤ 1073741824) ∧ (-1073741824 ≤ dd ∧ dd ≤ 1073741824) := by rw [← hhh, ← hdd]; omega
              have H10 := Lib.hid m10
              have H13 := Lib.hid m13
              have HNM := Lib.hid (And.intro hy (And.intro hhh (And.intro hdd hM)))
              have HP13 := Lib.hid hp13
              have sd : IntKind.i64.wrap (dd - y) = dd - y := IntWalk.i64_in _ (by omega)
              by_cases hi0 : i = 0
              · subst hi0
                obtain ⟨gb, go, rfl, _, hgb, hgc⟩ := HK.out.2 (by have := HGL.out; omega)
                have hg0 := hgc 0 (by have := HGL.out; omega)
                obtain ⟨g0, hg0e⟩ : ∃ g0, lAt g 0 = g0 := ⟨_, rfl⟩
                rw [hg0e] at hg0
                have hgr := HGO.out 0 (by have := HGL.out; omega)
                rw [hg0e] at hgr
                unfold rngL at hgr
                have sh : IntKind.i64.wrap (y + hh) = y + hh := IntWalk.i64_in _ (by omega)
                have sg : IntKind.i64.wrap (y + hh + g0) = y + hh + g0 := IntWalk.i64_in _ (by omega)
                obtain ⟨hz, hhz⟩ : ∃ hz, y + hh + g0 = hz := ⟨_, rfl⟩
                have HHZ : Hid (olH l g nb (0 + 1) = hz) := by
                  show colY l g nb 0 + (kidAt l 0).h + lAt g 0 = hz
                  rw [hy, hhh, hg0e, hhz]
                have HSG : Hid (IntKind.i64.wrap (y + hh + g0) = hz) := by rw [← hhz]; exact sg
                clear sg
                have hgw : gb < w.heap.size := hgb
                have y1 : ∀ v : Bel ((V0.setCell ⟨p13, 7, none⟩ (.int .i64 y)).setCell ⟨s, 3, none⟩ (.int .i64 M)).heap.size ((V0.setCell ⟨p13, 7, none⟩ (.int .i64 y)).setCell ⟨s, 3, none⟩ (.int .i64 M)), v.v.cell? ⟨p13, 7, none⟩ = some (.int .i64 y) := fun v => blk_cell ((v.h.block _ (Array.getElem?_eq_some_iff.1 m13).1).trans m13) 7 _ rfl
                have y2 : ∀ v : Bel ((V0.setCell ⟨p13, 7, none⟩ (.int .i64 y)).setCell ⟨s, 3, none⟩ (.int .i64 M)).heap.size ((V0.setCell ⟨p13, 7, none⟩ (.int .i64 y)).setCell ⟨s, 3, none⟩ (.int .i64 M)), v.v.cell? ⟨p13, 4, none⟩ = some (.int .i64 hh) := fun v => by rw [← hhh]; exact blk_cell ((v.h.block _ (Array.getElem?_eq_some_iff.1 m13).1).trans m13) 4 _ rfl
                have hw2 : Below w.heap.size w ((V0.setCell ⟨p13, 7, none⟩ (.int .i64 y)).setCell ⟨s, 3, none⟩ (.int .i64 M)) := (HM.out _ HBE.out).2
                have y3 : ∀ v : Bel ((V0.setCell ⟨p13, 7, none⟩ (.int .i64 y)).setCell ⟨s, 3, none⟩ (.int .i64 M)).heap.size ((V0.setCell ⟨p13, 7, none⟩ (.int .i64 y)).setCell ⟨s, 3, none⟩ (.int .i64 M)), v.v.cell? ⟨gb, go, none⟩ = some (.int .i64 g0) := fun v => ((hw2.trans (v.h.mono hw2.size)).cell (p := ⟨gb, go, none⟩) hgw).trans hg0
                clear h13 h10 k13 k10 hnum hcy hdi hxx hww hmm hM hhh hdd hy m10 m13 hg0 hgc hg0e hgr hw2 hhz
                go_wp2_with fail
                refine wp_region_tail2 10 _ (fun W' => ∃ v : Bel ((V0.setCell ⟨p13, 7, none⟩ (.int .i64 y)).setCell ⟨s, 3, none⟩ (.int .i64 M)).heap.size ((V0.setCell ⟨p13, 7, none⟩ (.int .i64 y)).setCell ⟨s, 3, none⟩ (.int .i64 M)), W' = v.v) (by kernel_rfl) (by kernel_rfl) (by kernel_rfl) rfl ⟨⟨_, (Below.refl _ _).drew⟩, rfl⟩ ?_
                simp only [List.take_succ_cons, List.take_zero]
                repeat (go_big_quiet_step (fail))
                clear y1 y2 y3
                refine wpQuiet_nil ?_
                rintro w' ⟨v, rfl⟩
                have hvh := v.h
                obtain ⟨vq, hvq⟩ : ∃ vq, vq = v.v := ⟨_, rfl⟩
                rw [← hvq] at hvh ⊢
                clear hvq
                have q10 := (hvh.block s (Array.getElem?_eq_some_iff.1 H10.out).1).trans H10.out
                have q13 := (hvh.block p13 (Array.getElem?_eq_some_iff.1 H13.out).1).trans H13.out
                have x4 : vq.cell? ⟨s, 4, none⟩ = some (.int .i64 (olH l g nb 0)) := blk_cell q10 4 _ rfl
                have z4 := blk_free q10 4
                refine ⟨fun _ _ => trivial, ?_⟩
                rw [Oper.semAt_eq _ _ _ (fun c h => by cases h)]
                have sg2 : wrap64 (y + hh + g0) = hz := (IntWalk.i64_left _).symm.trans HSG.out
                simp [go_sem, x4, z4, sg2]
                have H3 : Hid ((vq.setCell ⟨s, 4, none⟩ (.int .i64 hz)).heap[s]? = some (.cells (olB M (olH l g nb (0 + 1)) (olD l g nb 0) A' 0 cx) 27 (0, 0))) := by rw [HHZ.out]; exact blk_set q10 4 (.int .i64 hz)
                have K3 : Hid ((vq.setCell ⟨s, 4, none⟩ (.int .i64 hz)).heap[p13]? = some (.cells (bxA ((kidAt l 0).atY y) A1 c1 A2 c2) 27 (0, 0))) := blk_far q13 (p := ⟨s, 4, none⟩) (by show p13 ≠ s; omega) _
                have O3 : Hid (∀ k, k < p13 → k ≠ s → (vq.setCell ⟨s, 4, none⟩ (.int .i64 hz)).heap[k]? = wx.heap[k]?) := fun k h1 h2 => (Below.heap_setCell _ ⟨s, 4, none⟩ _ k h2).trans ((hvh.block k (Nat.lt_trans h1 (Array.getElem?_eq_some_iff.1 H13.out).1)).trans (HOLD.out k h1 h2))
                have BE3 : Hid (Below W0.heap.size W0 (vq.setCell ⟨s, 4, none⟩ (.int .i64 hz))) := (below_next HBE.out hvh).setCell (p := ⟨s, 4, none⟩) (by show _ ≤ s; have := HSZ.out; omega) _
                have c5 : (vq.setCell ⟨s, 4, none⟩ (.int .i64 hz)).cell? ⟨p13, 5, none⟩ = some (.int .i64 dd) := by rw [← HNM.out.2.2.1]; exact blk_cell K3.out 5 _ rfl
                have c7 : (vq.setCell ⟨s, 4, none⟩ (.int .i64 hz)).cell? ⟨p13, 7, none⟩ = some (.int .i64 y) := blk_cell K3.out 7 _ rfl
                have z5 := blk_free H3.out 5
                have c5s : (vq.setCell ⟨s, 4, none⟩ (.int .i64 hz)).cell? ⟨s, 5, none⟩ = some (.int .i64 (olD l g nb 0)) := blk_cell H3.out 5 _ rfl
                clear q10 q13 x4 z4 hvh
                have n10 : ((vq.setCell ⟨s, 4, none⟩ (.int .i64 hz)).setCell ⟨s, 5, none⟩ (.int .i64 (dd - y))).heap[s]? = some (.cells (olB M (olH l g nb (0 + 1)) (dd - y) A' 0 cx) 27 (0, 0)) := blk_set H3.out 5 (.int .i64 (dd - y))
                have n13 := blk_far K3.out (p := ⟨s, 5, none⟩) (by show p13 ≠ s; omega) (.int .i64 (dd - y))
                have e8 : ((vq.setCell ⟨s, 4, none⟩ (.int .i64 hz)).setCell ⟨s, 5, none⟩ (.int .i64 (dd - y))).cell? ⟨s, 8, none⟩ = some (.slice A' 0 cx) := blk_cell n10 8 _ rfl
                have HC13 : Hid (∀ j, j < 11 → ((vq.setCell ⟨s, 4, none⟩ (.int .i64 hz)).setCell ⟨s, 5, none⟩ (.int .i64 (dd - y))).cell? ⟨p13, 0 + j, none⟩ = (bxA ((kidAt l 0).atY y) A1 c1 A2 c2)[j]?) := fun j _ => by rw [Nat.zero_add]; exact cell_of_row _ _ _ _ _ _ n13
                have HOWN : Hid (((vq.setCell ⟨s, 4, none⟩ (.int .i64 hz)).setCell ⟨s, 5, none⟩ (.int .i64 (dd - y))).ownsRow (s + 1) 27 11 (.slice A' 0 cx) 0 (rowC Q)) := own_same HR.out.own fun k h1 h2 => (Below.heap_setCell _ ⟨s, 5, none⟩ _ k (by show k ≠ s; omega)).trans (O3.out k (by have := HP13.out; omega) (by omega))
                have HV4S : Hid (s + 1 ≤ ((vq.setCell ⟨s, 4, none⟩ (.int .i64 hz)).setCell ⟨s, 5, none⟩ (.int .i64 (dd - y))).heap.size) := (Array.getElem?_eq_some_iff.1 n10).1
                have HN10 := Lib.hid n10
                have HA4 : Hid ((((vq.setCell ⟨s, 4, none⟩ (.int .i64 hz)).setCell ⟨s, 5, none⟩ (.int .i64 (dd - y))).alloc (.cells (bxA ((kidAt l 0).atY y) A1 c1 A2 c2) 27)).heap[vq.heap.size]? = some (.cells (bxA ((kidAt l 0).atY y) A1 c1 A2 c2) 27 (0, 0))) := by
                  have e4 : ((vq.setCell ⟨s, 4, none⟩ (.int .i64 hz)).setCell ⟨s, 5, none⟩ (.int .i64 (dd - y))).heap.size = vq.heap.size := by simp
                  have e5 := blk_new ((vq.setCell ⟨s, 4, none⟩ (.int .i64 hz)).setCell ⟨s, 5, none⟩ (.int .i64 (dd - y))) (.cells (bxA ((kidAt l 0).atY y) A1 c1 A2 c2) 27)
                  rw [e4] at e5
                  exact e5
                clear n10 n13
                go_wp2_with (first
                  | ((with_reducible refine at_load 27 ?_); go_loud (refine wpList_load_all i1 11 hi1 hy1 _ Try.underlying27 rfl rfl HC13.out ?_))
                  | (at_builtin; go_loud (refine wpList_append_el rfl _ _ 22 27 rfl i1 _ 11 128 Try.underlying22 hi1 hy0 hy1 hy2 rfl (by omega) rfl (own_below HOWN.out (one_below _ _)) rfl HA4.out rfl (bxA_one ((kidAt l 0).atY y) A1 c1 A2 c2) (by unfold maxLen; omega) (by omega) (by have := HV4S.out; rw [World.size_alloc]; omega) ?_); intro A6 c6 w6 hown6 hb6; have HO6 := Lib.hid hown6; have HB6 := Lib.hid hb6; have d6 := (hb6.block s (by omega)).trans (blk_more HN10.out _); have y6 : w6.cell? ⟨s, 8, none⟩ = some (.slice A' 0 cx) := blk_cell d6 8 _ rfl; have z6 := blk_free d6 8; clear hown6 hb6 d6))
                have HNXT : Hid (RS w l g nb s (0 + 1) A6 c6 (Q ++ [⟨(kidAt l 0).atY (colY l g nb 0), A1, c1, A2, c2⟩]) (w6.setCell ⟨s, 8, none⟩ (.slice A6 (0 + 1) c6))) := by
                  have h3 : (vq.setCell ⟨s, 4, none⟩ (.int .i64 hz)).heap[s]? = some (.cells (olB (maxR l (0 + 1)) (olH l g nb (0 + 1)) (olD l g nb 0) A' 0 cx) 27 (0, 0)) := by rw [HNM.out.2.2.2]; exact H3.out
                  have hDd : olD l g nb (0 + 1) = dd - y := by show (kidAt l 0).d - colY l g nb 0 = _; rw [HNM.out.1, HNM.out.2.2.1]
                  refine HR.out.next (V3 := (vq.setCell ⟨s, 4, none⟩ (.int .i64 hz))) hlt hsl (fun k h1 h2 => O3.out k (by have := HP13.out; omega) h2) h3 (HM.out _ BE3.out).2 HLI.out rfl ?_ (o := .cells (bxA ((kidAt l 0).atY y) A1 c1 A2 c2) 27) ?_
                  · rw [HNM.out.1]; exact HO6.out
                  · rw [hDd]; exact HB6.out
                have HBN : Hid (Below W0.heap.size W0 (w6.setCell ⟨s, 8, none⟩ (.slice A6 (0 + 1) c6))) := by
                  have h0 := HSZ.out
                  have h1 : Below W0.heap.size W0 ((vq.setCell ⟨s, 4, none⟩ (.int .i64 hz)).setCell ⟨s, 5, none⟩ (.int .i64 (dd - y))) := BE3.out.setCell (p := ⟨s, 5, none⟩) (by show _ ≤ s; omega) _
                  exact ((h1.alloc h1.size _).trans (HB6.out.mono (by omega))).setCell (p := ⟨s, 8, none⟩) (by show _ ≤ s; omega) _
                clear y6 z6 e8
                go_wp2_with fail
                go_roundw
                case rel => exact ⟨0 + 1, A6, c6, _, by omega, by go_num, HNXT.out, HBN.out⟩
                case measure => simp [intOf]; omega
              · have hH : olH l g nb i = olH l g nb (i + 1) := by cases i with | zero => exact absurd rfl hi0 | succ i => rfl
                have c5 : ((V0.setCell ⟨p13, 7, none⟩ (.int .i64 y)).setCell ⟨s, 3, none⟩ (.int .i64 M)).cell? ⟨p13, 5, none⟩ = some (.int .i64 dd) := by rw [← hdd]; exact blk_cell m13 5 _ rfl
                have c7 : ((V0.setCell ⟨p13, 7, none⟩ (.int .i64 y)).setCell ⟨s, 3, none⟩ (.int .i64 M)).cell? ⟨p13, 7, none⟩ = some (.int .i64 y) := blk_cell m13 7 _ rfl
                have z5 := blk_free m10 5
                have c5s : ((V0.setCell ⟨p13, 7, none⟩ (.int .i64 y)).setCell ⟨s, 3, none⟩ (.int .i64 M)).cell? ⟨s, 5, none⟩ = some (.int .i64 (olD l g nb i)) := blk_cell m10 5 _ rfl
                have hni : ((i : Int) == 0) = false := by simp; exact hi0
                have hni2 : ¬ ((i : Int) = 0) := by omega
                have H3 : Hid (((V0.setCell ⟨p13, 7, none⟩ (.int .i64 y)).setCell ⟨s, 3, none⟩ (.int .i64 M)).heap[s]? = some (.cells (olB M (olH l g nb (i + 1)) (olD l g nb i) A' i cx) 27 (0, 0))) := by rw [← hH]; exact H10.out
                have K3 : Hid (((V0.setCell ⟨p13, 7, none⟩ (.int .i64 y)).setCell ⟨s, 3, none⟩ (.int .i64 M)).heap[p13]? = some (.cells (bxA ((kidAt l i).atY y) A1 c1 A2 c2) 27 (0, 0))) := H13.out
                have O3 := HOLD
                have BE3 := HBE
                have n10 : (((V0.setCell ⟨p13, 7, none⟩ (.int .i64 y)).setCell ⟨s, 3, none⟩ (.int .i64 M)).setCell ⟨s, 5, none⟩ (.int .i64 (dd - y))).heap[s]? = some (.cells (olB M (olH l g nb (i + 1)) (dd - y) A' i cx) 27 (0, 0)) := blk_set H3.out 5 (.int .i64 (dd - y))
                have n13 := blk_far K3.out (p := ⟨s, 5, none⟩) (by show p13 ≠ s; omega) (.int .i64 (dd - y))
                have e8 : (((V0.setCell ⟨p13, 7, none⟩ (.int .i64 y)).setCell ⟨s, 3, none⟩ (.int .i64 M)).setCell ⟨s, 5, none⟩ (.int .i64 (dd - y))).cell? ⟨s, 8, none⟩ = some (.slice A' i cx) := blk_cell n10 8 _ rfl
                have HC13 : Hid (∀ j, j < 11 → (((V0.setCell ⟨p13, 7, none⟩ (.int .i64 y)).setCell ⟨s, 3, none⟩ (.int .i64 M)).setCell ⟨s, 5, none⟩ (.int .i64 (dd - y))).cell? ⟨p13, 0 + j, none⟩ = (bxA ((kidAt l i).atY y) A1 c1 A2 c2)[j]?) := fun j _ => by rw [Nat.zero_add]; exact cell_of_row _ _ _ _ _ _ n13
                have HOWN : Hid ((((V0.setCell ⟨p13, 7, none⟩ (.int .i64 y)).setCell ⟨s, 3, none⟩ (.int .i64 M)).setCell ⟨s, 5, none⟩ (.int .i64 (dd - y))).ownsRow (s + 1) 27 11 (.slice A' i cx) i (rowC Q)) := own_same HR.out.own fun k h1 h2 => (Below.heap_setCell _ ⟨s, 5, none⟩ _ k (by show k ≠ s; omega)).trans (O3.out k (by have := HP13.out; omega) (by omega))
                have HV4S : Hid (s + 1 ≤ (((V0.setCell ⟨p13, 7, none⟩ (.int .i64 y)).setCell ⟨s, 3, none⟩ (.int .i64 M)).setCell ⟨s, 5, none⟩ (.int .i64 (dd - y))).heap.size) := (Array.getElem?_eq_some_iff.1 n10).1
                have HN10 := Lib.hid n10
                have HA4 : Hid (((((V0.setCell ⟨p13, 7, none⟩ (.int .i64 y)).setCell ⟨s, 3, none⟩ (.int .i64 M)).setCell ⟨s, 5, none⟩ (.int .i64 (dd - y))).alloc (.cells (bxA ((kidAt l i).atY y) A1 c1 A2 c2) 27)).heap[V0.heap.size]? = some (.cells (bxA ((kidAt l i).atY y) A1 c1 A2 c2) 27 (0, 0))) := by
                  have e4 : (((V0.setCell ⟨p13, 7, none⟩ (.int .i64 y)).setCell ⟨s, 3, none⟩ (.int .i64 M)).setCell ⟨s, 5, none⟩ (.int .i64 (dd - y))).heap.size = V0.heap.size := by simp
                  have e5 := blk_new (((V0.setCell ⟨p13, 7, none⟩ (.int .i64 y)).setCell ⟨s, 3, none⟩ (.int .i64 M)).setCell ⟨s, 5, none⟩ (.int .i64 (dd - y))) (.cells (bxA ((kidAt l i).atY y) A1 c1 A2 c2) 27)
                  rw [e4] at e5
                  exact e5
                clear n10 n13
                clear h13 h10 k13 k10 hnum hcy hdi hxx hww hmm hM hhh hdd hy m10 m13 hH
                go_wp2_with (first
                  | ((with_reducible refine at_load 27 ?_); go_loud (refine wpList_load_all i1 11 hi1 hy1 _ Try.underlying27 rfl rfl HC13.out ?_))
                  | (at_builtin; go_loud (refine wpList_append_el rfl _ _ 22 27 rfl i1 _ 11 128 Try.underlying22 hi1 hy0 hy1 hy2 rfl (by omega) rfl (own_below HOWN.out (one_below _ _)) rfl HA4.out rfl (bxA_one ((kidAt l i).atY y) A1 c1 A2 c2) (by unfold maxLen; omega) (by omega) (by have := HV4S.out; rw [World.size_alloc]; omega) ?_); intro A6 c6 w6 hown6 hb6; have HO6 := Lib.hid hown6; have HB6 := Lib.hid hb6; have d6 := (hb6.block s (by omega)).trans (blk_more HN10.out _); have y6 : w6.cell? ⟨s, 8, none⟩ = some (.slice A' i cx) := blk_cell d6 8 _ rfl; have z6 := blk_free d6 8; clear hown6 hb6 d6))
                have HNXT : Hid (RS w l g nb s (i + 1) A6 c6 (Q ++ [⟨(kidAt l i).atY (colY l g nb i), A1, c1, A2, c2⟩]) (w6.setCell ⟨s, 8, none⟩ (.slice A6 (i + 1) c6))) := by
                  have h3 : ((V0.setCell ⟨p13, 7, none⟩ (.int .i64 y)).setCell ⟨s, 3, none⟩ (.int .i64 M)).heap[s]? = some (.cells (olB (maxR l (i + 1)) (olH l g nb (i + 1)) (olD l g nb i) A' i cx) 27 (0, 0)) := by rw [HNM.out.2.2.2]; exact H3.out
                  have hDd : olD l g nb (i + 1) = dd - y := by show (kidAt l i).d - colY l g nb i = _; rw [HNM.out.1, HNM.out.2.2.1]
                  refine HR.out.next (V3 := ((V0.setCell ⟨p13, 7, none⟩ (.int .i64 y)).setCell ⟨s, 3, none⟩ (.int .i64 M))) hlt hsl (fun k h1 h2 => O3.out k (by have := HP13.out; omega) h2) h3 (HM.out _ BE3.out).2 HLI.out rfl ?_ (o := .cells (bxA ((kidAt l i).atY y) A1 c1 A2 c2) 27) ?_
                  · rw [HNM.out.1]; exact HO6.out
                  · rw [hDd]; exact HB6.out
                have HBN : Hid (Below W0.heap.size W0 (w6.setCell ⟨s, 8, none⟩ (.slice A6 (i + 1) c6))) := by
                  have h0 := HSZ.out
                  have h1 : Below W0.heap.size W0 (((V0.setCell ⟨p13, 7, none⟩ (.int .i64 y)).setCell ⟨s, 3, none⟩ (.int .i64 M)).setCell ⟨s, 5, none⟩ (.int .i64 (dd - y))) := BE3.out.setCell (p := ⟨s, 5, none⟩) (by show _ ≤ s; omega) _
                  exact ((h1.alloc h1.size _).trans (HB6.out.mono (by omega))).setCell (p := ⟨s, 8, none⟩) (by show _ ≤ s; omega) _
                clear y6 z6 e8
                go_wp2_with fail
                go_roundw
                case rel => exact ⟨i + 1, A6, c6, _, by omega, by go_num, HNXT.out, HBN.out⟩
                case measure => simp [intOf]; omega
            · obtain rfl : i = l.length := by omega
              have HTB : Hid (∃ tb : Bx, tb = colB l g nb ∧ tb.kids = movedY l (colY l g nb) ∧ tb.src = [] ∧ lens tb ∧ cntB tb ≤ 1001) := by
                exact ⟨_, rfl, rfl, rfl, colB_lens hl HCN.out⟩
              obtain ⟨tb, htb⟩ := HTB.out
              clear HTB
              have HTB := Lib.hid htb
              have hbx : wx.heap[s]? = some (.cells (bxA tb A' cx none 0) 27 (0, 0)) := by
                rw [HR.out.box, htb.1, olB_col (by omega)]
              have HKX : Hid (Kids wx 0 wx.heap.size A' tb.kids) := by rw [htb.2.1]; exact HR.out.kids
              have HC : Hid (∀ j, j < 11 → wx.cell? ⟨s, 0 + j, none⟩ = (bxA tb A' cx none 0)[j]?) := fun j _ => by rw [Nat.zero_add]; exact cell_of_row _ _ _ _ _ _ hbx
              clear htb hbx
              obtain ⟨r, hr⟩ := bool_of (validB tb)
              have HVD := Lib.hid hr
              clear hr
              go_wp2_with ((with_reducible refine at_load 27 ?_); go_loud (refine wpList_load_all i1 11 hi1 hy1 _ Try.underlying27 rfl rfl HC.out ?_))
              refine (rValid_any tb A' cx none 0 _ HTB.out.2.2.2.1 (by have := HTB.out.2.2.2.2; omega) HVD.out HKX.out (by rw [HTB.out.2.2.1]; exact fun h => absurd h (by simp))).mono ?_
              rintro e w2 ⟨rfl, hb2⟩
              have HB2 := Lib.hid (below_next HBX.out hb2)
              have D6 := Lib.hid (HM.out w2 HB2.out)
              have HC2 : Hid (∀ j, j < 11 → w2.cell? ⟨s, 0 + j, none⟩ = (bxA tb A' cx none 0)[j]?) := fun j hj => (hb2.cell (p := ⟨s, 0 + j, none⟩) (Array.getElem?_eq_some_iff.1 HR.out.box).1).trans (HC.out j hj)
              have HO2 := Lib.hid hb2
              clear hb2
              cases r with
              | false =>
                go_wp2_with ((with_reducible refine at_store 27 ?_); go_loud (refine wpList_store_all i1 11 hi1 hy1 rfl rfl rfl D6.out.1 (by decide) (bxA_one zeroBx none 0 none 0) ?_); rw [row_all _ _ rfl rfl])
                refine bodyPost_ret (results_cell_tmp rfl _ i1 11 hi1 hy1 _ Try.underlying27 rfl rfl (fun j _ => by rw [Nat.zero_add]; exact cell_setRow_same _ _ _ _ _ _ _ D6.out.1)) rfl ?_
                refine ColPost.zero (colE_4 HAV.out HOK.out HGO.out fun h => ?_) (below_setRow D6.out.2 (Nat.le_refl _) _)
                have h2 := HVD.out.2 (by rw [HTB.out.1]; rw [Int.toNat_natCast] at h; exact h)
                simp at h2
              | true =>
                have HVT : Hid (validB tb) := HVD.out.1 rfl
                clear HVD
                go_wp2_with (first
                  | ((with_reducible refine at_load 27 ?_); go_loud (refine wpList_load_all i1 11 hi1 hy1 _ Try.underlying27 rfl rfl HC2.out ?_))
                  | ((with_reducible refine at_store 27 ?_); go_loud (refine wpList_store_all i1 11 hi1 hy1 rfl rfl rfl D6.out.1 (by decide) (bxA_one tb A' cx none 0) ?_); rw [row_all _ _ rfl rfl]))
                refine bodyPost_ret (results_cell_tmp rfl _ i1 11 hi1 hy1 _ Try.underlying27 rfl rfl (fun j _ => by rw [Nat.zero_add]; exact cell_setRow_same _ _ _ _ _ _ _ D6.out.1)) rfl ?_
                have h0 := colE_0 HAV.out HOK.out HGO.out (by rw [Int.toNat_natCast, ← HTB.out.1]; exact HVT.out)
                rw [Int.toNat_natCast, ← HTB.out.1] at h0
                unfold ColPost
                rw [h0.1, h0.2]
                refine ⟨⟨A', cx, rfl, ?_⟩, below_setRow D6.out.2 (Nat.le_refl _) _⟩
                rw [HTB.out.2.1]
                exact HR.out.kids2 (below_setRow D6.out.2 (Nat.le_refl _) _) (by have := HO2.out.size; simpa using this) fun k h1 h2 => (setRow_other _ _ _ _ (by omega)).trans (HO2.out.block k h2)
end Go.Proofs.Ytonahgdchngabaa
