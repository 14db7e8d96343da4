/- The law on moved boxes: the walk. -/
import Derived.Test.YtlgnghehgcoccaaBoxBFl
import Derived.Test.YtlgnghehgcoccaaBoxMovK
import Derived.Test.YtlgnghehgcoccaaBoxMovL
import Derived.Test.YtlgnghehgcoccaaBoxAwake
import Derived.Test.YtlgnghehgcoccaaBoxCnt
import Derived.Test.YtlgnghehgcoccaaBoxValid
import Derived.Deep.RegionLaw
import Derived.Deep.RegionHeld3
namespace Go.Proofs.Ytlgnghehgcoccaa
open Go.RowKit Go.Deep
set_option maxRecDepth 100000 in
set_option maxHeartbeats 4000000 in
theorem boxMoved_walk (t : Bx) (A : Option Addr) (c : Nat) (A' : Option Addr) (c' : Nat) (dx dy : Int) (w : World) (hl : lens t) (hK : Kids w 0 w.heap.size A t.kids) (hI : Ints w 0 w.heap.size A' t.src) (hx : -32768 ≤ dx ∧ dx ≤ 32767) (hy : -32768 ≤ dy ∧ dy ≤ 32767) :
    Calls Try.prog 5 #[.agg (bxA t A c A' c'), .int .i16 dx, .int .i16 dy] w fun e w' => e = .returned (.bool true) ∧ Below w.heap.size w w' := by
  obtain ⟨i1, hi1, hy0, hy1, hy2⟩ := info_parts infoBox
  obtain ⟨W0, hW0⟩ : ∃ W0, w.alloc (.cells (bxA t A c A' c') 25) = W0 := ⟨_, rfl⟩
  obtain ⟨s, hs⟩ : ∃ s, w.heap.size = s := ⟨_, rfl⟩
  have HB0 : Hid (Below w.heap.size w W0) := by rw [← hW0]; exact one_below _ _
  have HD0 : Hid (W0.heap[s]? = some (.cells (bxA t A c A' c') 25 (0, 0))) := by rw [← hW0, ← hs]; exact blk_new _ _
  have HS : Hid (w.heap.size = s ∧ W0.heap.size = s + 1) := by
    refine ⟨hs, ?_⟩
    rw [← hW0, World.size_alloc, hs]
  have HL := Lib.hid hl
  have HK := Lib.hid hK
  have HI := Lib.hid hI
  have HXY := Lib.hid (And.intro hx hy)
  clear hl hK hI hx hy
  go_enter Try.func5, Try.ntmps5
  go_wp2_with fail
  refine (bawake_any _).mono ?_
  rintro e w1 ⟨rfl, hb1⟩
  have HB1 : Hid (Below w.heap.size w w1) := below_next HB0.out hb1
  have HD1 : Hid (w1.heap[s]? = some (.cells (bxA t A c A' c') 25 (0, 0))) := (hb1.block s (by have := HS.out.2; omega)).trans HD0.out
  clear hb1 hW0
  have HC1 : Hid (∀ j, j < 11 → w1.cell? ⟨s, 0 + j, none⟩ = (bxA t A c A' c')[j]?) := fun j _ => by rw [Nat.zero_add]; exact cell_of_row _ _ _ _ _ _ HD1.out
  obtain ⟨few, hfew⟩ : ∃ few : Bool, decide (cntB t ≤ 300) = few := ⟨_, rfl⟩
  have HF := Lib.hid hfew
  clear hfew
  go_wp2_with ((with_reducible refine at_load 25 ?_); go_loud (refine wpList_load_all i1 11 hi1 hy1 _ Try.underlying25 rfl rfl HC1.out ?_))
  refine (rfew_any t 300 A c A' c' w1 (by decide) HF.out (HK.out.next HB1.out)).mono ?_
  rintro e w2 ⟨rfl, hb2⟩
  have HB2 : Hid (Below w.heap.size w w2) := below_next HB1.out hb2
  have HD2 : Hid (w2.heap[s]? = some (.cells (bxA t A c A' c') 25 (0, 0))) := (hb2.block s (Array.getElem?_eq_some_iff.1 HD1.out).1).trans HD1.out
  clear hb2
  cases few with
  | false =>
    go_wp2
    go_ret
    exact ⟨rfl, HB2.out⟩
  | true =>
  have HCN : Hid (cntB t ≤ 300) := by have h := of_decide_eq_true HF.out; exact h
  clear HF
  have y0 : w2.cell? ⟨s, 0, none⟩ = some (.int .i64 t.k) := blk_cell HD2.out 0 _ rfl
  by_cases hk3 : t.k = 3
  case neg =>
    have n1 : (t.k != 3) = true := by simp [hk3]
    clear hk3
    go_wp2
    go_ret
    exact ⟨rfl, HB2.out⟩
  have n1 : (t.k != 3) = false := by simp [hk3]
  have HK3 := Lib.hid hk3
  clear hk3
  have y1 : w2.cell? ⟨s, 1, none⟩ = some (.string t.nm) := blk_cell HD2.out 1 _ rfl
  have y2 : w2.cell? ⟨s, 2, none⟩ = some (.int .i64 t.sz) := blk_cell HD2.out 2 _ rfl
  have y3 : w2.cell? ⟨s, 3, none⟩ = some (.int .i64 t.w) := blk_cell HD2.out 3 _ rfl
  have y4 : w2.cell? ⟨s, 4, none⟩ = some (.int .i64 t.h) := blk_cell HD2.out 4 _ rfl
  have y5 : w2.cell? ⟨s, 5, none⟩ = some (.int .i64 t.d) := blk_cell HD2.out 5 _ rfl
  have y6 : w2.cell? ⟨s, 6, none⟩ = some (.int .i64 t.x) := blk_cell HD2.out 6 _ rfl
  have y7 : w2.cell? ⟨s, 7, none⟩ = some (.int .i64 t.y) := blk_cell HD2.out 7 _ rfl
  have y8 : w2.cell? ⟨s, 8, none⟩ = some (.slice A t.kids.length c) := blk_cell HD2.out 8 _ rfl
  have y9 : w2.cell? ⟨s, 9, none⟩ = some (.int .i64 t.of_) := blk_cell HD2.out 9 _ rfl
  have y10 : w2.cell? ⟨s, 10, none⟩ = some (.slice A' t.src.length c') := blk_cell HD2.out 10 _ rfl
  obtain ⟨r, hr⟩ := bool_of (validB t)
  have HR := Lib.hid hr
  clear hr
  go_wp2_with fail
  change Calls Try.prog _ #[.agg (bxA t A c A' c')] w2 _
  clear y0 y1 y2 y3 y4 y5 y6 y7 y8 y9 y10 n1
  refine (rValid_any t A c A' c' w2 HL.out (by have := HCN.out; omega) HR.out (HK.out.next HB2.out) (HI.out.next HB2.out)).mono ?_
  rintro e w3 ⟨rfl, hb3⟩
  have HB3 : Hid (Below w.heap.size w w3) := below_next HB2.out hb3
  have HD3 : Hid (w3.heap[s]? = some (.cells (bxA t A c A' c') 25 (0, 0))) := (hb3.block s (Array.getElem?_eq_some_iff.1 HD2.out).1).trans HD2.out
  clear hb3
  cases r with
  | false =>
    go_wp2
    go_ret
    exact ⟨rfl, HB3.out⟩
  | true =>
  have HV : Hid (validB t) := by have h := HR.out.1 rfl; exact h
  clear HR
  have HC3 : Hid (∀ j, j < 11 → w3.cell? ⟨s, 0 + j, none⟩ = (bxA t A c A' c')[j]?) := fun j _ => by rw [Nat.zero_add]; exact cell_of_row _ _ _ _ _ _ HD3.out
  go_wp2_with ((with_reducible refine at_load 25 ?_); go_loud (refine wpList_load_all i1 11 hi1 hy1 _ Try.underlying25 rfl rfl HC3.out ?_))
  obtain ⟨p, hp⟩ : ∃ p, w3.heap.size = p := ⟨_, rfl⟩
  obtain ⟨W4, hW4⟩ : ∃ W4, w3.alloc (.cells (mb t A' c' none 0 0) 25) = W4 := ⟨_, rfl⟩
  have HP : Hid (w3.heap.size = p ∧ s < p) := ⟨hp, by have := (Array.getElem?_eq_some_iff.1 HD3.out).1; omega⟩
  have HS4 : Hid (W4.heap.size = p + 1) := by show _ = _; rw [← hW4, World.size_alloc, hp]
  have HM0 : Hid (MS W4 p t A' c' (movK dx dy t.kids) 0 none 0 [] W4) := by
    refine ⟨rfl, rfl, ?_, ⟨rfl, .inl ⟨rfl, rfl⟩⟩, fun q hq => (by cases hq), Below.refl _ _, by have := HS4.out; omega⟩
    rw [← hW4, ← hp]
    exact blk_new _ _
  have HB4 : Hid (Below w.heap.size w W4) := by rw [← hW4]; exact below_next HB3.out (one_below _ _)
  have HD4 : Hid (W4.heap[s]? = some (.cells (bxA t A c A' c') 25 (0, 0))) := by rw [← hW4]; exact blk_more HD3.out _
  have hln : t.kids.length ≤ 300 := by have h1 := cntB_eq t; have h2 := cnt_len t.kids; have := HCN.out; omega
  have HK4 : Hid (Kids W4 0 p A t.kids) := (HK.out.low HB4.out).mono (Nat.le_refl _) (by have := HB3.out.size; have := HP.out.1; omega)
  have sx : IntKind.i64.wrap dx = dx := IntWalk.i64_in _ (by have := HXY.out; omega)
  have sy : IntKind.i64.wrap dy = dy := IntWalk.i64_in _ (by have := HXY.out; omega)
  change Code.wp _ _ _ _ (w3.alloc (.cells (mb t A' c' none 0 0) 25))
  rw [hW4, hp]
  clear hW4 hp
  go_loopw [8] (fun q wr => ∃ (i : Nat) (AQ : Option Addr) (cx : Nat) (Q : List Q5), i ≤ t.kids.length ∧ q = .int .i64 (i : Int) ∧ MS W4 p t A' c' (movK dx dy t.kids) i AQ cx Q wr) (fun q _ => t.kids.length - (intOf q).toNat)
  case atStart => exact ⟨0, none, 0, [], Nat.zero_le _, rfl, HM0.out⟩
  case round =>
    obtain ⟨i, AQ, cx, Q, hi, rfl, hms⟩ := hrel
    have HMS := Lib.hid hms
    have HDR : Hid (wr.heap[s]? = some (.cells (bxA t A c A' c') 25 (0, 0))) := (hms.bel.block s HP.out.2).trans HD4.out
    clear hms
    by_cases hlt : i < t.kids.length
    · obtain ⟨kb, ko, A1, c1, A2, c2, rfl, _, hkb, hat, hk1, hi1', hl1⟩ := HK4.out.at hlt
      have HC : Hid (∀ j, j < 11 → wr.cell? ⟨kb, ko + i * 11 + j, none⟩ = (bxA (kidAt t.kids i) A1 c1 A2 c2)[j]?) := fun j hj => (HMS.out.bel.cell (p := ⟨kb, ko + i * 11 + j, none⟩) hkb).trans (hat j hj)
      have HSRC : Hid ((kidAt t.kids i).src.length ≤ 1000000) := by
        have h1 := ((properB_eq _).1 ((properL_iff _).1 ((properB_eq t).1 HV.out.1).2 i hlt)).1.2.2
        show _ ≤ _
        rcases h1.2 with h | h | h <;> omega
      have HKT : Hid (kidAt (movK dx dy t.kids) i = (kidAt t.kids i).mvd dx dy) := movK_at hlt
      have HKI : Hid (Kids W4 0 p A1 (kidAt t.kids i).kids ∧ Ints W4 0 p A2 (kidAt t.kids i).src ∧ lens (kidAt t.kids i)) := ⟨hk1, hi1', hl1⟩
      have y8 : wr.cell? ⟨s, 8, none⟩ = some (.slice (some ⟨kb, ko, none⟩) t.kids.length c) := blk_cell HDR.out 8 _ rfl
      clear hat hk1 hi1' hl1
      generalize kidAt t.kids i = u at HC HSRC HKT HKI
      go_wp2_with ((with_reducible refine at_load 25 ?_); go_loud (refine wpList_load_all i1 11 hi1 hy1 _ Try.underlying25 rfl rfl HC.out ?_))
      change Code.wp _ _ _ _ (wr.alloc (.cells (bxA u A1 c1 A2 c2) 25))
      obtain ⟨W1, hW1⟩ : ∃ W1, wr.alloc (.cells (bxA u A1 c1 A2 c2) 25) = W1 := ⟨_, rfl⟩
      have HB1 : Hid (Below wr.heap.size wr W1) := by rw [← hW1]; exact one_below _ _
      have HD1 : Hid (W1.heap[wr.heap.size]? = some (.cells (bxA u A1 c1 A2 c2) 25 (0, 0))) := by rw [← hW1]; exact blk_new _ _
      rw [hW1]
      clear hW1 HC y8
      obtain ⟨x', hx'⟩ : ∃ x', IntKind.i64.wrap (u.x + dx) = x' := ⟨_, rfl⟩
      obtain ⟨y', hy'⟩ : ∃ y', IntKind.i64.wrap (u.y + dy) = y' := ⟨_, rfl⟩
      have HMV : Hid (u.mvd dx dy = u.at_ x' y') := by show _ = _; rw [← hx', ← hy']; rfl
      have HCT : Hid (∀ W', Below wr.heap.size wr W' → Calls Try.prog 16 #[.agg (bxA u A1 c1 A2 c2), .int .i64 x', .int .i64 y'] W' fun e w' => (∃ A2 c2, e = .returned (.agg (bxA (u.at_ x' y') A1 c1 A2 c2)) ∧ Ints w' W'.heap.size w'.heap.size A2 u.src) ∧ Below W'.heap.size W' w') := fun W' hb =>
        at_any u x' y' A1 c1 A2 c2 W' HSRC.out (((HKI.out.2.1.below (HMS.out.bel.trans (hb.mono (by have := HMS.out.siz; omega))))).mono (Nat.le_refl _) (by have := HMS.out.siz; have := hb.size; omega))
      have hszr := HMS.out.siz
      have y8 : W1.drew.cell? ⟨p, 8, none⟩ = some (.slice AQ i cx) := blk_cell (W := W1.drew) ((HB1.out.block _ (by omega)).trans HMS.out.box) 8 _ rfl
      have k0 : W1.drew.cell? ⟨wr.heap.size, 0, none⟩ = some (.int .i64 u.k) := blk_cell (W := W1.drew) HD1.out 0 _ rfl
      have k1 : W1.drew.cell? ⟨wr.heap.size, 1, none⟩ = some (.string u.nm) := blk_cell (W := W1.drew) HD1.out 1 _ rfl
      have k2 : W1.drew.cell? ⟨wr.heap.size, 2, none⟩ = some (.int .i64 u.sz) := blk_cell (W := W1.drew) HD1.out 2 _ rfl
      have k3 : W1.drew.cell? ⟨wr.heap.size, 3, none⟩ = some (.int .i64 u.w) := blk_cell (W := W1.drew) HD1.out 3 _ rfl
      have k4 : W1.drew.cell? ⟨wr.heap.size, 4, none⟩ = some (.int .i64 u.h) := blk_cell (W := W1.drew) HD1.out 4 _ rfl
      have k5 : W1.drew.cell? ⟨wr.heap.size, 5, none⟩ = some (.int .i64 u.d) := blk_cell (W := W1.drew) HD1.out 5 _ rfl
      have k6 : W1.drew.cell? ⟨wr.heap.size, 6, none⟩ = some (.int .i64 u.x) := blk_cell (W := W1.drew) HD1.out 6 _ rfl
      have k7 : W1.drew.cell? ⟨wr.heap.size, 7, none⟩ = some (.int .i64 u.y) := blk_cell (W := W1.drew) HD1.out 7 _ rfl
      have k8 : W1.drew.cell? ⟨wr.heap.size, 8, none⟩ = some (.slice A1 u.kids.length c1) := blk_cell (W := W1.drew) HD1.out 8 _ rfl
      have k9 : W1.drew.cell? ⟨wr.heap.size, 9, none⟩ = some (.int .i64 u.of_) := blk_cell (W := W1.drew) HD1.out 9 _ rfl
      have k10 : W1.drew.cell? ⟨wr.heap.size, 10, none⟩ = some (.slice A2 u.src.length c2) := blk_cell (W := W1.drew) HD1.out 10 _ rfl
      go_region_law (first
        | (refine step_append_own rfl (.tmp 52) (.tmp 65) 22 25 rfl i1 _ 11 128 Try.underlying22 hi1 hy0 hy1 hy2 rfl (by omega) rfl (own_below HMS.out.own (HB5.out.alloc HB5.out.size _)) rfl (heap_alloc_new _ _) rfl (bxA_one _ _ _ _ _) (by unfold maxLen; omega) (by omega) (by have := HB5.out.size; rw [World.size_alloc]; omega) ?_; intro A6 c6 w6 hown6 hg6 ho6; have d6 := HMS.out.kept (HB5.out.alloc HB5.out.size _) hg6; have y6 : w6.cell? ⟨p, 8, none⟩ = some (.slice AQ i cx) := blk_cell d6 8 _ rfl; have z6 := blk_free d6 8; have HL6 := Lib.hid (And.intro hown6 (And.intro hg6 ho6)); clear d6 hown6 hg6 ho6)
        | (go_simp; go_at_call 16; refine (HCT.out _ HB1.out.drew).mono ?_; rintro e w5 ⟨⟨A5, c5, rfl, hi5⟩, hb5⟩; have HB5 : Hid (Below wr.heap.size wr w5) := below_next HB1.out.drew hb5; have HI5 := Lib.hid hi5; have d5 := (HB5.out.block p (by omega)).trans HMS.out.box; have y5 : w5.cell? ⟨p, 8, none⟩ = some (.slice AQ i cx) := blk_cell d5 8 _ rfl; have x5 : (w5.alloc (.cells (bxA (u.at_ x' y') A1 c1 A5 c5) 25)).cell? ⟨p, 8, none⟩ = some (.slice AQ i cx) := blk_cell (blk_more d5 _) 8 _ rfl; clear hi5 hb5 d5))
      all_goals
        have HM2 : Hid (MS W4 p t A' c' (movK dx dy t.kids) (i + 1) A6 c6 (Q ++ [⟨u.at_ x' y', A1, c1, A5, c5⟩]) (w6.setCell ⟨p, 8, none⟩ (.slice A6 (i + 1) c6))) :=
          HMS.out.next (q := ⟨u.at_ x' y', A1, c1, A5, c5⟩) (by rw [movK_len]; exact hlt) (by rw [HKT.out, HMV.out]) (HB5.out.alloc HB5.out.size _) HKI.out.1 HKI.out.2.2 ((HI5.out.next (one_below _ _)).mono HB1.out.drew.size (Nat.le_refl _)) HL6.out.1 HL6.out.2.1 HL6.out.2.2
        clear HMS HL6 y6 z6 y8 y5 x5 HI5 k0 k1 k2 k3 k4 k5 k6 k7 k8 k9 k10
        go_wp2_with fail
        go_roundw
        case rel => exact ⟨i + 1, A6, c6, _, by omega, by go_num, HM2.out⟩
        case measure => simp [intOf]; omega
    · obtain rfl : i = t.kids.length := by omega
      have HBR : Hid (Below w.heap.size w wr) := HB4.out.trans (HMS.out.bel.mono (by have := HB3.out.size; have := HP.out.1; omega))
      have HKC : Hid (Kids wr 0 wr.heap.size AQ (movK dx dy t.kids)) := HMS.out.kids (by rw [movK_len])
      have HD7 : Hid (wr.heap[p]? = some (.cells (mb t A' c' AQ t.kids.length cx) 25 (0, 0))) := HMS.out.box
      have HKR : Hid (Kids wr 0 wr.heap.size A t.kids) := HK.out.next HBR.out
      obtain ⟨F, hF⟩ : ∃ F, flatB t 0 0 = F := ⟨_, rfl⟩
      obtain ⟨G, hG⟩ : ∃ G, F.map (Pl.mv dx dy) = G := ⟨_, rfl⟩
      have hGl : G.length = F.length := by rw [← hG, mv_len]
      have hFl : F.length ≤ 300 := by rw [← hF]; have h1 := flat_len (cntB t) t (Nat.le_refl _) 0 0; have := HCN.out; omega
      have HF1 : Hid (∀ W' : World, Below wr.heap.size wr W' → Calls Try.prog 21 #[.agg (bxA t A c A' c')] W' fun e w' => (∃ A2 c2, e = .returned (.slice A2 F.length c2) ∧ w'.ownsRow W'.heap.size 42 8 (.slice A2 F.length c2) F.length (plC F)) ∧ Below W'.heap.size W' w') := fun W' hW => by
        rw [← hF]
        exact bflat_any t A c A' c' W' (by have := HCN.out; omega) (HKR.out.next hW)
      have HF2 : Hid (∀ W' : World, Below wr.heap.size wr W' → Calls Try.prog 21 #[.agg (mb t A' c' AQ t.kids.length cx)] W' fun e w' => (∃ A2 c2, e = .returned (.slice A2 F.length c2) ∧ w'.ownsRow W'.heap.size 42 8 (.slice A2 F.length c2) F.length (plC G)) ∧ Below W'.heap.size W' w') := fun W' hW => by
        have h := bflat_any (t.movB dx dy) AQ cx A' c' W' (by rw [cnt_movB]; have := HCN.out; omega) (HKC.out.next hW)
        have e : bxA (t.movB dx dy) AQ cx A' c' = mb t A' c' AQ t.kids.length cx := by
          show mb t A' c' AQ (movK dx dy t.kids).length cx = _
          rw [movK_len]
        rw [e, flat_movB dx dy HK3.out, hF, hG] at h
        unfold BFlPost at h
        rw [hGl] at h
        exact h
      have HF3 : Hid (∀ (Aa : Option Addr) (ca : Nat) (W' : World), Below wr.heap.size wr W' → Calls Try.prog 21 #[.agg (bxA (t.at_ dx dy) A c Aa ca)] W' fun e w' => (∃ A2 c2, e = .returned (.slice A2 F.length c2) ∧ w'.ownsRow W'.heap.size 42 8 (.slice A2 F.length c2) F.length (plC F)) ∧ Below W'.heap.size W' w') := fun Aa ca W' hW => by
        have h := bflat_any (t.at_ dx dy) A c Aa ca W' (by rw [show cntB (t.at_ dx dy) = cntB t from by rw [cntB_eq, cntB_eq]; rfl]; have := HCN.out; omega) (HKR.out.next hW)
        rw [flat_at, hF] at h
        exact h
      have hsl : t.src.length ≤ 1000000 := by
        have h1 := ((properB_eq t).1 HV.out.1).1.2.2
        rcases h1.2 with h | h | h <;> omega
      have HAT : Hid (∀ W' : World, Below wr.heap.size wr W' → Calls Try.prog 16 #[.agg (bxA t A c A' c'), .int .i64 dx, .int .i64 dy] W' fun e w' => (∃ A2 c2, e = .returned (.agg (bxA (t.at_ dx dy) A c A2 c2))) ∧ Below W'.heap.size W' w') := fun W' hW => by
        refine (at_any t dx dy A c A' c' W' hsl ((HI.out.next HBR.out).next hW)).mono ?_
        rintro e w' ⟨⟨A2, c2, h1, _⟩, h2⟩
        exact ⟨⟨A2, c2, h1⟩, h2⟩
      have HS12 : Hid (∀ W' : World, Below wr.heap.size wr W' → (W'.cell? ⟨s, 0, none⟩ = some (.int .i64 t.k) ∧ W'.cell? ⟨s, 1, none⟩ = some (.string t.nm) ∧ W'.cell? ⟨s, 2, none⟩ = some (.int .i64 t.sz) ∧ W'.cell? ⟨s, 3, none⟩ = some (.int .i64 t.w) ∧ W'.cell? ⟨s, 4, none⟩ = some (.int .i64 t.h) ∧ W'.cell? ⟨s, 5, none⟩ = some (.int .i64 t.d) ∧ W'.cell? ⟨s, 6, none⟩ = some (.int .i64 t.x) ∧ W'.cell? ⟨s, 7, none⟩ = some (.int .i64 t.y) ∧ W'.cell? ⟨s, 8, none⟩ = some (.slice A t.kids.length c) ∧ W'.cell? ⟨s, 9, none⟩ = some (.int .i64 t.of_) ∧ W'.cell? ⟨s, 10, none⟩ = some (.slice A' t.src.length c') ∧ W'.cell? ⟨p, 0, none⟩ = some (.int .i64 t.k) ∧ W'.cell? ⟨p, 1, none⟩ = some (.string t.nm) ∧ W'.cell? ⟨p, 2, none⟩ = some (.int .i64 t.sz) ∧ W'.cell? ⟨p, 3, none⟩ = some (.int .i64 t.w) ∧ W'.cell? ⟨p, 4, none⟩ = some (.int .i64 t.h) ∧ W'.cell? ⟨p, 5, none⟩ = some (.int .i64 t.d) ∧ W'.cell? ⟨p, 6, none⟩ = some (.int .i64 t.x) ∧ W'.cell? ⟨p, 7, none⟩ = some (.int .i64 t.y) ∧ W'.cell? ⟨p, 8, none⟩ = some (.slice AQ t.kids.length cx) ∧ W'.cell? ⟨p, 9, none⟩ = some (.int .i64 t.of_) ∧ W'.cell? ⟨p, 10, none⟩ = some (.slice A' t.src.length c'))) := fun W' hW => by
        have h1 := (hW.block _ (Array.getElem?_eq_some_iff.1 HDR.out).1).trans HDR.out
        have h2 := (hW.block _ (Array.getElem?_eq_some_iff.1 HD7.out).1).trans HD7.out
        exact ⟨blk_cell h1 0 _ rfl, blk_cell h1 1 _ rfl, blk_cell h1 2 _ rfl, blk_cell h1 3 _ rfl, blk_cell h1 4 _ rfl, blk_cell h1 5 _ rfl, blk_cell h1 6 _ rfl, blk_cell h1 7 _ rfl, blk_cell h1 8 _ rfl, blk_cell h1 9 _ rfl, blk_cell h1 10 _ rfl, blk_cell h2 0 _ rfl, blk_cell h2 1 _ rfl, blk_cell h2 2 _ rfl, blk_cell h2 3 _ rfl, blk_cell h2 4 _ rfl, blk_cell h2 5 _ rfl, blk_cell h2 6 _ rfl, blk_cell h2 7 _ rfl, blk_cell h2 8 _ rfl, blk_cell h2 9 _ rfl, blk_cell h2 10 _ rfl⟩
      have hbd : Below wr.heap.size wr wr.drew := (Below.refl _ _).drew
      have HG := Lib.hid hG
      have y8 : wr.cell? ⟨s, 8, none⟩ = some (.slice A t.kids.length c) := blk_cell HDR.out 8 _ rfl
      clear hF hG hsl
      go_wp2_with fail
      clear y8
      go_region_held3 (fun W => W.cell? ⟨s, 0, none⟩ = some (.int .i64 t.k) ∧ W.cell? ⟨s, 1, none⟩ = some (.string t.nm) ∧ W.cell? ⟨s, 2, none⟩ = some (.int .i64 t.sz) ∧ W.cell? ⟨s, 3, none⟩ = some (.int .i64 t.w) ∧ W.cell? ⟨s, 4, none⟩ = some (.int .i64 t.h) ∧ W.cell? ⟨s, 5, none⟩ = some (.int .i64 t.d) ∧ W.cell? ⟨s, 6, none⟩ = some (.int .i64 t.x) ∧ W.cell? ⟨s, 7, none⟩ = some (.int .i64 t.y) ∧ W.cell? ⟨s, 8, none⟩ = some (.slice A t.kids.length c) ∧ W.cell? ⟨s, 9, none⟩ = some (.int .i64 t.of_) ∧ W.cell? ⟨s, 10, none⟩ = some (.slice A' t.src.length c') ∧ W.cell? ⟨p, 0, none⟩ = some (.int .i64 t.k) ∧ W.cell? ⟨p, 1, none⟩ = some (.string t.nm) ∧ W.cell? ⟨p, 2, none⟩ = some (.int .i64 t.sz) ∧ W.cell? ⟨p, 3, none⟩ = some (.int .i64 t.w) ∧ W.cell? ⟨p, 4, none⟩ = some (.int .i64 t.h) ∧ W.cell? ⟨p, 5, none⟩ = some (.int .i64 t.d) ∧ W.cell? ⟨p, 6, none⟩ = some (.int .i64 t.x) ∧ W.cell? ⟨p, 7, none⟩ = some (.int .i64 t.y) ∧ W.cell? ⟨p, 8, none⟩ = some (.slice AQ t.kids.length cx) ∧ W.cell? ⟨p, 9, none⟩ = some (.int .i64 t.of_) ∧ W.cell? ⟨p, 10, none⟩ = some (.slice A' t.src.length c')) (first | exact HS12.out _ (by with_reducible assumption))
        (first
          | (go_at_call 21; with_reducible refine (HF1.out _ (by with_reducible assumption)).mono ?_; rintro e w8 ⟨⟨A8, c8, rfl, ho8⟩, hb8⟩; have hbS8 : Below wr.heap.size wr w8 := below_next (by with_reducible assumption) hb8)
          | (go_at_call 21; with_reducible refine (HF2.out _ (by with_reducible assumption)).mono ?_; rintro e w9 ⟨⟨A9, c9, rfl, ho9⟩, hb9⟩; have hbS9 : Below wr.heap.size wr w9 := below_next (by with_reducible assumption) hb9)
          | (go_at_call 16; with_reducible refine (HAT.out _ (by with_reducible assumption)).mono ?_; rintro e wa ⟨⟨Aa, ca, rfl⟩, hba⟩; have hbSa : Below wr.heap.size wr wa := below_next (by with_reducible assumption) hba)
          | (go_at_call 21; with_reducible refine (HF3.out _ _ _ (by with_reducible assumption)).mono ?_; rintro e w10 ⟨⟨A10, c10, rfl, ho10⟩, hb10⟩; have hbS10 : Below wr.heap.size wr w10 := below_next (by with_reducible assumption) hb10))
      obtain ⟨wo, hwo⟩ : ∃ wo : World, wo = wr := ⟨_, rfl⟩
      subst hwo
      obtain ⟨g8, hg8, hP8⟩ := plIn_own ho8 rfl
      obtain ⟨g9, _, hP9⟩ := plIn_own ho9 hGl.symm
      obtain ⟨g10, _, hP10⟩ := plIn_own ho10 rfl
      have HLO : Hid (wo.heap.size ≤ g8) := hg8
      have HP8 : Hid (PlIn w10 wo.heap.size w8.heap.size A8 F g8) := hP8.low (hb9.trans ((hba.trans (hb10.mono hba.size)).mono hb9.size))
      have HP9 : Hid (PlIn w10 w8.heap.size w9.heap.size A9 G g9) := hP9.low (hba.trans (hb10.mono hba.size))
      have HP10 : Hid (PlIn w10 wa.heap.size w10.heap.size A10 F g10) := hP10
      have HSZ : Hid (wo.heap.size ≤ w8.heap.size ∧ w8.heap.size ≤ w9.heap.size ∧ w9.heap.size ≤ wa.heap.size ∧ wa.heap.size ≤ w10.heap.size) := ⟨hbS8.size, hb9.size, hba.size, hb10.size⟩
      have HBS := Lib.hid hbS10
      clear ho8 ho9 ho10 hP8 hP9 hP10 hg8 hb8 hb9 hba hb10 hbS8 hbS9 hbSa hbS10 hbd HS12 HF1 HF2 HF3 HAT
      go_wp2_with fail
      go_loopw [13] (fun q wr => ∃ i : Nat, i ≤ F.length ∧ q = .int .i64 (i : Int) ∧ MvR F dx dy g8 wo.heap.size w10 wr i) (fun q _ => F.length - (intOf q).toNat)
      case atStart => exact ⟨0, Nat.zero_le _, rfl, MvR.zero HP8.out⟩
      case round =>
        obtain ⟨i, hi, rfl, hmv⟩ := hrel
        have HMV := Lib.hid hmv
        clear hmv
        by_cases hlt : i < F.length
        · obtain ⟨rfl, hg8a, hg8b, -⟩ := HP8.out (by omega)
          obtain ⟨rfl, hg9a, hg9b, -⟩ := HP9.out (by rw [← HG.out, mv_len]; omega)
          obtain ⟨rfl, hg10a, hg10b, -⟩ := HP10.out (by omega)
          obtain ⟨pl, hpl⟩ : ∃ pl, F[i]? = some pl := ⟨_, List.getElem?_eq_getElem hlt⟩
          obtain ⟨pk, psz, pnm, px, py, pw, ph, pd⟩ := pl
          have HPL := Lib.hid hpl
          have HGL : Hid (G[i]? = some (Pl.mv dx dy ⟨pk, psz, pnm, px, py, pw, ph, pd⟩)) := by show _ = _; rw [← HG.out]; exact mv_at hpl
          have HNE : Hid (g9 ≠ g8 ∧ g10 ≠ g8 ∧ g9 < w10.heap.size ∧ g10 < w10.heap.size) := by have := HSZ.out; exact ⟨by omega, by omega, by omega, by omega⟩
          obtain ⟨hcell, cur, hcur, hcsz⟩ := HMV.out.cell hpl
          have hcell10 := HP10.out.at hpl (HMV.out.same g10 HNE.out.2.1 HNE.out.2.2.2)
          have HCUR := Lib.hid (And.intro hcur hcsz)
          clear hpl hg8a hg8b hg9a hg9b hg10a hg10b hcur hcsz
          have x0 : wr.cell? ⟨g8, i * 8, none⟩ = some (.int .i64 pk) := hcell 0 (by omega)
          have x1 : wr.cell? ⟨g8, i * 8 + 1, none⟩ = some (.int .i64 psz) := hcell 1 (by omega)
          have x2 : wr.cell? ⟨g8, i * 8 + 2, none⟩ = some (.string pnm) := hcell 2 (by omega)
          have x3 : wr.cell? ⟨g8, i * 8 + 3, none⟩ = some (.int .i64 px) := hcell 3 (by omega)
          have x4 : wr.cell? ⟨g8, i * 8 + 4, none⟩ = some (.int .i64 py) := hcell 4 (by omega)
          have x5 : wr.cell? ⟨g8, i * 8 + 5, none⟩ = some (.int .i64 pw) := hcell 5 (by omega)
          have x6 : wr.cell? ⟨g8, i * 8 + 6, none⟩ = some (.int .i64 ph) := hcell 6 (by omega)
          have x7 : wr.cell? ⟨g8, i * 8 + 7, none⟩ = some (.int .i64 pd) := hcell 7 (by omega)
          have z0 : wr.cell? ⟨g10, i * 8, none⟩ = some (.int .i64 pk) := hcell10 0 (by omega)
          have z1 : wr.cell? ⟨g10, i * 8 + 1, none⟩ = some (.int .i64 psz) := hcell10 1 (by omega)
          have z2 : wr.cell? ⟨g10, i * 8 + 2, none⟩ = some (.string pnm) := hcell10 2 (by omega)
          have z3 : wr.cell? ⟨g10, i * 8 + 3, none⟩ = some (.int .i64 px) := hcell10 3 (by omega)
          have z4 : wr.cell? ⟨g10, i * 8 + 4, none⟩ = some (.int .i64 py) := hcell10 4 (by omega)
          have z5 : wr.cell? ⟨g10, i * 8 + 5, none⟩ = some (.int .i64 pw) := hcell10 5 (by omega)
          have z6 : wr.cell? ⟨g10, i * 8 + 6, none⟩ = some (.int .i64 ph) := hcell10 6 (by omega)
          have z7 : wr.cell? ⟨g10, i * 8 + 7, none⟩ = some (.int .i64 pd) := hcell10 7 (by omega)
          clear hcell hcell10
          obtain ⟨X, hX⟩ : ∃ X, IntKind.i64.wrap (px + dx) = X := ⟨_, rfl⟩
          obtain ⟨Y, hY⟩ : ∃ Y, IntKind.i64.wrap (py + dy) = Y := ⟨_, rfl⟩
          have HX := Lib.hid (And.intro hX hY)
          have HROW : Hid (Pl.mv dx dy ⟨pk, psz, pnm, px, py, pw, ph, pd⟩ = ⟨pk, psz, pnm, X, Y, pw, ph, pd⟩) := by show _ = _; rw [← hX, ← hY]; rfl
          have HNX : Hid (∀ n1 n2 : Nat, MvR F dx dy g8 wo.heap.size w10 ((((wr.drewN n1).setCell ⟨g8, i * 8 + 3, none⟩ (.int .i64 X)).setCell ⟨g8, i * 8 + 4, none⟩ (.int .i64 Y)).drewN n2) (i + 1)) := fun n1 n2 => by
            rw [← HX.out.1, ← HX.out.2]
            exact HMV.out.next HLO.out HPL.out n1 n2
          rw [wrapE] at hX hY
          go_wp2_with fail
          go_quiet (fail)
          have y3 : (wr.drewN nq).cell? ⟨g8, i * 8 + 3, none⟩ = some (.int .i64 px) := x3
          have f3 : (wr.drewN nq).frozen? ⟨g8, i * 8 + 3, none⟩ = false := blk_free (W := (wr.drewN nq)) HCUR.out.1 _
          have hc4 : cur[i * 8 + 4]? = some (.int .i64 py) := (cell_of_row _ _ _ _ _ _ HCUR.out.1).symm.trans x4
          have hb6 := blk_set (W := (wr.drewN nq)) HCUR.out.1 (i * 8 + 3) (.int .i64 X)
          have y4 : ((wr.drewN nq).setCell ⟨g8, i * 8 + 3, none⟩ (.int .i64 X)).cell? ⟨g8, i * 8 + 4, none⟩ = some (.int .i64 py) := blk_cell hb6 _ _ (by rw [Array.getElem?_setIfInBounds_ne (by omega)]; exact hc4)
          have f4 : ((wr.drewN nq).setCell ⟨g8, i * 8 + 3, none⟩ (.int .i64 X)).frozen? ⟨g8, i * 8 + 4, none⟩ = false := blk_free hb6 _
          have HN : Hid (MvR F dx dy g8 wo.heap.size w10 (((wr.drewN nq).setCell ⟨g8, i * 8 + 3, none⟩ (.int .i64 X)).setCell ⟨g8, i * 8 + 4, none⟩ (.int .i64 Y)) (i + 1)) := HNX.out nq 0
          have hc7 := HN.out.row (by omega)
          obtain ⟨cur7, hb7, hc7⟩ := hc7
          have hp7 : ∀ k, k < 8 → (((wr.drewN nq).setCell ⟨g8, i * 8 + 3, none⟩ (.int .i64 X)).setCell ⟨g8, i * 8 + 4, none⟩ (.int .i64 Y)).cell? ⟨g8, i * 8 + k, none⟩ = (Pl.row ⟨pk, psz, pnm, X, Y, pw, ph, pd⟩)[k]? := fun k hk => by
            have h := hc7 i _ HPL.out k hk
            rw [if_pos (Nat.lt_succ_self _), HROW.out] at h
            rw [← h]
            exact cell_of_row _ _ _ _ _ _ hb7
          have hq7 : ∀ k, k < 8 → (((wr.drewN nq).setCell ⟨g8, i * 8 + 3, none⟩ (.int .i64 X)).setCell ⟨g8, i * 8 + 4, none⟩ (.int .i64 Y)).cell? ⟨g9, i * 8 + k, none⟩ = (Pl.row ⟨pk, psz, pnm, X, Y, pw, ph, pd⟩)[k]? := by
            rw [← HROW.out]
            exact HP9.out.at HGL.out (HN.out.same g9 HNE.out.1 HNE.out.2.2.1)
          have a0 : (((wr.drewN nq).setCell ⟨g8, i * 8 + 3, none⟩ (.int .i64 X)).setCell ⟨g8, i * 8 + 4, none⟩ (.int .i64 Y)).cell? ⟨g8, i * 8, none⟩ = some (.int .i64 pk) := hp7 0 (by omega)
          have a1 : (((wr.drewN nq).setCell ⟨g8, i * 8 + 3, none⟩ (.int .i64 X)).setCell ⟨g8, i * 8 + 4, none⟩ (.int .i64 Y)).cell? ⟨g8, i * 8 + 1, none⟩ = some (.int .i64 psz) := hp7 1 (by omega)
          have a2 : (((wr.drewN nq).setCell ⟨g8, i * 8 + 3, none⟩ (.int .i64 X)).setCell ⟨g8, i * 8 + 4, none⟩ (.int .i64 Y)).cell? ⟨g8, i * 8 + 2, none⟩ = some (.string pnm) := hp7 2 (by omega)
          have a3 : (((wr.drewN nq).setCell ⟨g8, i * 8 + 3, none⟩ (.int .i64 X)).setCell ⟨g8, i * 8 + 4, none⟩ (.int .i64 Y)).cell? ⟨g8, i * 8 + 3, none⟩ = some (.int .i64 X) := hp7 3 (by omega)
          have a4 : (((wr.drewN nq).setCell ⟨g8, i * 8 + 3, none⟩ (.int .i64 X)).setCell ⟨g8, i * 8 + 4, none⟩ (.int .i64 Y)).cell? ⟨g8, i * 8 + 4, none⟩ = some (.int .i64 Y) := hp7 4 (by omega)
          have a5 : (((wr.drewN nq).setCell ⟨g8, i * 8 + 3, none⟩ (.int .i64 X)).setCell ⟨g8, i * 8 + 4, none⟩ (.int .i64 Y)).cell? ⟨g8, i * 8 + 5, none⟩ = some (.int .i64 pw) := hp7 5 (by omega)
          have a6 : (((wr.drewN nq).setCell ⟨g8, i * 8 + 3, none⟩ (.int .i64 X)).setCell ⟨g8, i * 8 + 4, none⟩ (.int .i64 Y)).cell? ⟨g8, i * 8 + 6, none⟩ = some (.int .i64 ph) := hp7 6 (by omega)
          have a7 : (((wr.drewN nq).setCell ⟨g8, i * 8 + 3, none⟩ (.int .i64 X)).setCell ⟨g8, i * 8 + 4, none⟩ (.int .i64 Y)).cell? ⟨g8, i * 8 + 7, none⟩ = some (.int .i64 pd) := hp7 7 (by omega)
          have q0 : (((wr.drewN nq).setCell ⟨g8, i * 8 + 3, none⟩ (.int .i64 X)).setCell ⟨g8, i * 8 + 4, none⟩ (.int .i64 Y)).cell? ⟨g9, i * 8, none⟩ = some (.int .i64 pk) := hq7 0 (by omega)
          have q1 : (((wr.drewN nq).setCell ⟨g8, i * 8 + 3, none⟩ (.int .i64 X)).setCell ⟨g8, i * 8 + 4, none⟩ (.int .i64 Y)).cell? ⟨g9, i * 8 + 1, none⟩ = some (.int .i64 psz) := hq7 1 (by omega)
          have q2 : (((wr.drewN nq).setCell ⟨g8, i * 8 + 3, none⟩ (.int .i64 X)).setCell ⟨g8, i * 8 + 4, none⟩ (.int .i64 Y)).cell? ⟨g9, i * 8 + 2, none⟩ = some (.string pnm) := hq7 2 (by omega)
          have q3 : (((wr.drewN nq).setCell ⟨g8, i * 8 + 3, none⟩ (.int .i64 X)).setCell ⟨g8, i * 8 + 4, none⟩ (.int .i64 Y)).cell? ⟨g9, i * 8 + 3, none⟩ = some (.int .i64 X) := hq7 3 (by omega)
          have q4 : (((wr.drewN nq).setCell ⟨g8, i * 8 + 3, none⟩ (.int .i64 X)).setCell ⟨g8, i * 8 + 4, none⟩ (.int .i64 Y)).cell? ⟨g9, i * 8 + 4, none⟩ = some (.int .i64 Y) := hq7 4 (by omega)
          have q5 : (((wr.drewN nq).setCell ⟨g8, i * 8 + 3, none⟩ (.int .i64 X)).setCell ⟨g8, i * 8 + 4, none⟩ (.int .i64 Y)).cell? ⟨g9, i * 8 + 5, none⟩ = some (.int .i64 pw) := hq7 5 (by omega)
          have q6 : (((wr.drewN nq).setCell ⟨g8, i * 8 + 3, none⟩ (.int .i64 X)).setCell ⟨g8, i * 8 + 4, none⟩ (.int .i64 Y)).cell? ⟨g9, i * 8 + 6, none⟩ = some (.int .i64 ph) := hq7 6 (by omega)
          have q7 : (((wr.drewN nq).setCell ⟨g8, i * 8 + 3, none⟩ (.int .i64 X)).setCell ⟨g8, i * 8 + 4, none⟩ (.int .i64 Y)).cell? ⟨g9, i * 8 + 7, none⟩ = some (.int .i64 pd) := hq7 7 (by omega)
          clear x0 x1 x2 x3 x4 x5 x6 x7 z0 z1 z2 z3 z4 z5 z6 z7 hc4 hb6 hb7 hc7 hp7 hq7
          go_wp2_with fail
          clear y3 f3 y4 f4
          go_quiet (fail)
          clear a0 a1 a2 a3 a4 a5 a6 a7 q0 q1 q2 q3 q4 q5 q6 q7
          go_wp2_with fail
          go_roundw
          case rel => exact ⟨i + 1, by omega, by go_num, HNX.out _ _⟩
          case measure => simp [intOf]; omega
        · obtain rfl : i = F.length := by omega
          have HBZ : Hid (Below wo.heap.size wo wr) := HBS.out.trans HMV.out.bel
          have HDS : Hid (wr.heap[s]? = some (.cells (bxA t A c A' c') 25 (0, 0))) := (HBZ.out.block _ (Array.getElem?_eq_some_iff.1 HDR.out).1).trans HDR.out
          have HDP : Hid (wr.heap[p]? = some (.cells (mb t A' c' AQ t.kids.length cx) 25 (0, 0))) := (HBZ.out.block _ (Array.getElem?_eq_some_iff.1 HD7.out).1).trans HD7.out
          have y8 : wr.cell? ⟨s, 8, none⟩ = some (.slice A t.kids.length c) := blk_cell HDS.out 8 _ rfl
          have HBE : Hid (Below w.heap.size w wr) := below_next HBR.out HBZ.out
          by_cases hn0 : t.kids.length = 0
          · have q0 : ((t.kids.length : Int) == 0) = true := by simp [hn0]
            clear hn0
            go_wp2
            go_ret
            exact ⟨rfl, HBE.out⟩
          have q0 : ((t.kids.length : Int) == 0) = false := by simp [hn0]
          obtain ⟨E, hE⟩ : ∃ E, extN t.kids t.kids.length = E := ⟨_, rfl⟩
          obtain ⟨x1, x2, x3, x4⟩ := E
          have hER : extN (movK dx dy t.kids) t.kids.length = (x1 + dx, x2 + dx, x3 + dy, x4 - dy) ∧ (-2147483648 ≤ x1 ∧ x1 ≤ 2147483648) ∧ (-2147483648 ≤ x2 ∧ x2 ≤ 2147483648) ∧ (-2147483648 ≤ x3 ∧ x3 ≤ 2147483648) ∧ (-2147483648 ≤ x4 ∧ x4 ≤ 2147483648) := by
            obtain ⟨m, hm⟩ : ∃ m, t.kids.length = m + 1 := ⟨t.kids.length - 1, by omega⟩
            have h := ext_rng (l := t.kids) (fun i hi => nums_kid HV.out hi) HXY.out.1 HXY.out.2 m (by omega)
            rw [← hm, hE] at h
            exact h
          have HE1 : Hid (∀ W' : World, Below wr.heap.size wr W' → Calls Try.prog 22 #[.slice A t.kids.length c] W' fun e w' => e = .returned (.tuple #[.int .i64 x1, .int .i64 x2, .int .i64 x3, .int .i64 x4]) ∧ Below W'.heap.size W' w') := fun W' hW => by
            have h := extent_any A c t.kids W' (by omega) (HKR.out.next (below_next HBZ.out hW))
            rw [hE] at h
            exact h
          have HE2 : Hid (∀ W' : World, Below wr.heap.size wr W' → Calls Try.prog 22 #[.slice AQ t.kids.length cx] W' fun e w' => e = .returned (.tuple #[.int .i64 (x1 + dx), .int .i64 (x2 + dx), .int .i64 (x3 + dy), .int .i64 (x4 - dy)]) ∧ Below W'.heap.size W' w') := fun W' hW => by
            have h := extent_any AQ cx (movK dx dy t.kids) W' (by rw [movK_len]; omega) (HKC.out.next (below_next HBZ.out hW))
            rw [movK_len, hER.1] at h
            exact h
          have u1 : wrap64 (x1 + dx) = x1 + dx := by rw [← wrapE]; exact IntWalk.i64_in _ (by have := HXY.out; omega)
          have u2 : wrap64 (x2 + dx) = x2 + dx := by rw [← wrapE]; exact IntWalk.i64_in _ (by have := HXY.out; omega)
          have u3 : wrap64 (x3 + dy) = x3 + dy := by rw [← wrapE]; exact IntWalk.i64_in _ (by have := HXY.out; omega)
          have u4 : wrap64 (x4 - dy) = x4 - dy := by rw [← wrapE]; exact IntWalk.i64_in _ (by have := HXY.out; omega)
          have v1 : IntKind.i64.wrap (x1 + dx) = x1 + dx := by rw [wrapE]; exact u1
          have v2 : IntKind.i64.wrap (x2 + dx) = x2 + dx := by rw [wrapE]; exact u2
          have v3 : IntKind.i64.wrap (x3 + dy) = x3 + dy := by rw [wrapE]; exact u3
          have v4 : IntKind.i64.wrap (x4 - dy) = x4 - dy := by rw [wrapE]; exact u4
          clear hn0 hE hER
          go_wp2_with fail
          refine (HE1.out wr (Below.refl _ _)).mono ?_
          rintro e v11 ⟨rfl, hb11⟩
          have p8 : v11.cell? ⟨p, 8, none⟩ = some (.slice AQ t.kids.length cx) := blk_cell ((hb11.block _ (Array.getElem?_eq_some_iff.1 HDP.out).1).trans HDP.out) 8 _ rfl
          have HB11 := Lib.hid hb11
          clear hb11 y8
          go_wp2_with fail
          refine (HE2.out v11 HB11.out).mono ?_
          rintro e v12 ⟨rfl, hb12⟩
          have HB12 := Lib.hid (below_next HB11.out hb12)
          clear hb12 p8
          go_wp2
          go_ret
          exact ⟨rfl, below_next HBE.out HB12.out⟩
end Go.Proofs.Ytlgnghehgcoccaa
