/- The reference's Flat: the walk. Printed by gen_flat.py. -/
import Derived.Test.YtjckbdbjcgjcaaaBoxFlatP
import Derived.Test.YtjckbdbjcgjcaaaAppMany
import Derived.Deep.RegionHeld3
namespace Go.Proofs.Ytjckbdbjcgjcaaa
open Go.RowKit
attribute [local go_sem] Oper.semAt_some
theorem infoPl : (Try.prog.info? 45).map (fun i => (i.zero, i.size, i.bytes)) = some (some (.agg (Pl.row ⟨0, 0, ⟨#[]⟩, 0, 0, 0, 0, 0⟩)), 8, 72) := by kernel_rfl
theorem below_up {B : Nat} {a w w' : World} (h : Below B a w) (hB : B ≤ a.heap.size) (hb : Below w.heap.size w w') : Below B a w' := h.trans (hb.mono (Nat.le_trans hB h.size))
theorem ownPl_1 {t : Bx} {x y : Int} (h : t.k = 1) : ownPl t x y = [⟨1, t.sz, t.nm, x, y, t.w, t.h, t.d⟩] := by unfold ownPl; rw [if_pos h]
theorem ownPl_2 {t : Bx} {x y : Int} (h : t.k = 2) : ownPl t x y = [⟨2, 0, ⟨#[]⟩, x, y, t.w, t.h, t.d⟩] := by unfold ownPl; rw [if_neg (by omega), if_pos h]
theorem ownPl_0 {t : Bx} {x y : Int} (h1 : ¬ t.k = 1) (h2 : ¬ t.k = 2) : ownPl t x y = [] := by unfold ownPl; rw [if_neg h1, if_neg h2]
def FlatPost (F : List Pl) (w : World) (e : Ending) (w' : World) : Prop := (∃ A2 c2, e = .returned (.slice A2 F.length c2) ∧ PlAt w' A2 F) ∧ Below w.heap.size w w'
set_option maxRecDepth 100000 in
set_option maxHeartbeats 4000000 in
theorem flat_any : ∀ (n : Nat) (t : Bx), cntB t ≤ n → n ≤ 100000 → ∀ (A : Option Addr) (c : Nat) (A' : Option Addr) (c' : Nat) (x y : Int) (w : World), Kids w 0 w.heap.size A t.kids →
    Calls Try.prog 20 #[.agg (bxA t A c A' c'), .int .i64 x, .int .i64 y] w (FlatPost (flatB t x y) w) := by
  intro n
  induction n with
  | zero => intro t h; have := cntB_pos t; omega
  | succ n ih =>
  intro t hn hn1 A c A' c' x y w hK
  have IH := Lib.hid ih
  clear ih
  obtain ⟨i1, hi1, hy0, hy1, hy2⟩ := info_parts infoBox
  obtain ⟨i2, hi2, hz0, hz1, hz2⟩ := info_parts infoPl
  have HK := Lib.hid hK
  have hcn := cntB_eq t
  have hlen := cnt_len t.kids
  have hl5 : t.kids.length ≤ 100000 := by omega
  have hol := own_len t x y
  have hfl := flatL_len t.kids x y
  have HN : Hid (cntB t ≤ n + 1 ∧ n + 1 ≤ 100000 ∧ cntL t.kids ≤ n) := ⟨hn, hn1, by omega⟩
  clear hK hn hn1 hcn hlen hfl
  have HB0 : Hid (Below w.heap.size w (w.alloc (.cells (bxA t A c A' c') 28))) := one_below _ _
  have d0 := blk_new w (.cells (bxA t A c A' c') 28)
  obtain ⟨W0, hW0⟩ : ∃ W0, w.alloc (.cells (bxA t A c A' c') 28) = W0 := ⟨_, rfl⟩
  obtain ⟨s, hs⟩ : ∃ s, w.heap.size = s := ⟨_, rfl⟩
  have hs0 : W0.heap.size = s + 1 := by rw [← hW0, ← hs]; simp
  rw [hW0, hs] at d0
  rw [hW0] at HB0
  have HS0 : Hid (w.heap.size = s ∧ W0.heap.size = s + 1) := ⟨hs, hs0⟩
  have HD0 := Lib.hid d0
  obtain ⟨kk, hkk⟩ : ∃ kk, t.k = kk := ⟨_, rfl⟩
  obtain ⟨ww, hww⟩ : ∃ ww, t.w = ww := ⟨_, rfl⟩
  obtain ⟨hh, hhh⟩ : ∃ hh, t.h = hh := ⟨_, rfl⟩
  obtain ⟨dd, hdd⟩ : ∃ dd, t.d = dd := ⟨_, rfl⟩
  obtain ⟨zz, hzz⟩ : ∃ zz, t.sz = zz := ⟨_, rfl⟩
  obtain ⟨nm, hnm⟩ : ∃ nm, t.nm = nm := ⟨_, rfl⟩
  have e0 : W0.cell? ⟨s, 0, none⟩ = some (.int .i64 kk) := by rw [← hkk]; exact blk_cell d0 0 _ rfl
  have e3 : W0.cell? ⟨s, 3, none⟩ = some (.int .i64 ww) := by rw [← hww]; exact blk_cell d0 3 _ rfl
  have e4 : W0.cell? ⟨s, 4, none⟩ = some (.int .i64 hh) := by rw [← hhh]; exact blk_cell d0 4 _ rfl
  have e5 : W0.cell? ⟨s, 5, none⟩ = some (.int .i64 dd) := by rw [← hdd]; exact blk_cell d0 5 _ rfl
  have HNM := Lib.hid (And.intro hkk (And.intro hww (And.intro hhh (And.intro hdd (And.intro hzz hnm)))))
  clear d0 hkk hww hhh hdd hzz hnm
  go_enter Try.func20, Try.ntmps20
  have hk3 : kk = 1 ∨ kk = 2 ∨ (¬ kk = 1 ∧ ¬ kk = 2) := by omega
  rcases hk3 with rfl | rfl | ⟨hk1, hk2⟩
  · obtain ⟨W1, hW1⟩ : ∃ W1, W0.alloc (.cells (Pl.row ⟨1, 0, ⟨#[]⟩, x, y, ww, hh, dd⟩) 45) = W1 := ⟨_, rfl⟩
    have b1 : W1.heap[s + 1]? = some (.cells (Pl.row ⟨1, 0, ⟨#[]⟩, x, y, ww, hh, dd⟩) 45 (0, 0)) := by rw [← hW1, ← hs0]; exact blk_new _ _
    have a1 : W1.heap[s]? = some (.cells (bxA t A c A' c') 28 (0, 0)) := by rw [← hW1]; exact blk_more HD0.out _
    have hbw1 : Below (s + 1) W0 W1 := by rw [← hW1]; exact (Below.refl _ _).alloc (by omega) _
    have f0 : W1.cell? ⟨s, 0, none⟩ = some (.int .i64 1) := by rw [← HNM.out.1]; exact blk_cell a1 0 _ rfl
    have f1 : W1.cell? ⟨s, 1, none⟩ = some (.string nm) := by rw [← HNM.out.2.2.2.2.2]; exact blk_cell a1 1 _ rfl
    have f2 : W1.cell? ⟨s, 2, none⟩ = some (.int .i64 zz) := by rw [← HNM.out.2.2.2.2.1]; exact blk_cell a1 2 _ rfl
    have g1 : W1.cell? ⟨s + 1, 1, none⟩ = some (.int .i64 0) := blk_cell b1 1 _ rfl
    have g2 : W1.cell? ⟨s + 1, 2, none⟩ = some (.string ⟨#[]⟩) := blk_cell b1 2 _ rfl
    have z1 := blk_free b1 1
    have z2 := blk_free b1 2
    have HB1 := Lib.hid b1
    have HBW1 := Lib.hid hbw1
    clear b1 a1 hbw1
    go_wp2_with fail
    go_region
    have HD2 : Hid ((((W1.setCell ⟨s + 1, 2, none⟩ (.string nm)).setCell ⟨s + 1, 1, none⟩ (.int .i64 zz)).drew).heap[s + 1]? = some (.cells (Pl.row ⟨1, zz, nm, x, y, ww, hh, dd⟩) 45 (0, 0))) := blk_set (blk_set HB1.out 2 (.string nm)) 1 (.int .i64 zz)
    have HBW : Hid (Below (s + 1) W0 (((W1.setCell ⟨s + 1, 2, none⟩ (.string nm)).setCell ⟨s + 1, 1, none⟩ (.int .i64 zz)).drew)) := ((HBW1.out.setCell (p := ⟨s + 1, 2, none⟩) (Nat.le_refl _) _).setCell (p := ⟨s + 1, 1, none⟩) (Nat.le_refl _) _).drew
    generalize ((W1.setCell ⟨s + 1, 2, none⟩ (.string nm)).setCell ⟨s + 1, 1, none⟩ (.int .i64 zz)).drew = W2 at HD2 HBW ⊢
    have HPL : Hid (ownPl t x y = [⟨1, zz, nm, x, y, ww, hh, dd⟩]) := by show _ = _; rw [ownPl_1 HNM.out.1, HNM.out.2.1, HNM.out.2.2.1, HNM.out.2.2.2.1, HNM.out.2.2.2.2.1, HNM.out.2.2.2.2.2]
    clear f0 f1 f2 g1 g2 z1 z2 hW1 e0 e3 e4 e5
    have HC2 : Hid (∀ j, j < 8 → W2.cell? ⟨s + 1, 0 + j, none⟩ = (Pl.row ⟨1, zz, nm, x, y, ww, hh, dd⟩)[j]?) := fun j _ => by rw [Nat.zero_add]; exact cell_of_row _ _ _ _ _ _ HD2.out
    have HA2 : Hid ((W2.alloc (.cells (Pl.row ⟨1, zz, nm, x, y, ww, hh, dd⟩) 45)).heap[W2.heap.size]? = some (.cells (Pl.row ⟨1, zz, nm, x, y, ww, hh, dd⟩) 45 (0, 0))) := blk_new _ _
    have HSZ2 : Hid (s + 1 ≤ (W2.alloc (.cells (Pl.row ⟨1, zz, nm, x, y, ww, hh, dd⟩) 45)).heap.size) := by
      show _ ≤ _
      have := HBW.out.size
      have := HS0.out.2
      rw [World.size_alloc]; omega
    go_wp2_with (first
      | ((with_reducible refine at_load 45 ?_); go_loud (refine wpList_load_all i2 8 hi2 hz1 _ Try.underlying45 rfl rfl HC2.out ?_))
      | (at_builtin; refine wpList_append_el rfl _ _ 42 45 rfl i2 _ 8 72 Try.underlying42 hi2 hz0 hz1 hz2 rfl (by omega) (A := none) (c := 0) (n := 0) (xs := []) rfl ⟨rfl, .inl ⟨rfl, rfl⟩⟩ rfl HA2.out rfl (Pl.row_one ⟨1, zz, nm, x, y, ww, hh, dd⟩) (by unfold maxLen; omega) (by omega) HSZ2.out ?_; intro AO cO W3 hownO hbO; have HO := Lib.hid hownO; have HBO := Lib.hid hbO; clear hownO hbO))
    have HO3 : Hid (W3.ownsRow (s + 1) 45 8 (.slice AO 1 cO) 1 (plC [⟨1, zz, nm, x, y, ww, hh, dd⟩])) := by
      have h := HO.out
      rw [List.nil_append] at h
      have e : plC [⟨1, zz, nm, x, y, ww, hh, dd⟩] = (Pl.row ⟨1, zz, nm, x, y, ww, hh, dd⟩).toList := by simp [plC]
      rw [e]
      exact h
    have HB3 : Hid (Below (s + 1) W0 W3) := (HBW.out.alloc (Nat.le_trans (Nat.le_of_eq HS0.out.2.symm) HBW.out.size) _).trans HBO.out
    clear HO HBO HA2 HSZ2 HC2 HD2 HBW
    go_wp2_with fail
    go_loopw [7, 9] (fun v q wr => ∃ (i : Nat) (AQ : Option Addr) (nQ cQ : Nat), i ≤ t.kids.length ∧ q = .int .i64 (i : Int) ∧ v = .slice AQ nQ cQ ∧ nQ = (ownPl t x y).length + (flatL (t.kids.take i) x y).length ∧ wr.ownsRow (s + 1) 45 8 (.slice AQ nQ cQ) nQ (plC (ownPl t x y ++ flatL (t.kids.take i) x y)) ∧ Below (s + 1) W0 wr) (fun _ q _ => t.kids.length - (intOf q).toNat)
    case atStart => exact ⟨0, AO, 1, cO, Nat.zero_le _, rfl, rfl, by rw [List.take_zero, flatL_nil, HPL.out]; rfl, by rw [List.take_zero, flatL_nil, List.append_nil, HPL.out]; exact HO3.out, HB3.out⟩
    case round =>
      obtain ⟨i, AQ, nQ, cQ, hi, rfl, rfl, hnQ, hown, hbw⟩ := hrel
      have HOQ := Lib.hid hown
      have HBW := Lib.hid hbw
      have HNQ := Lib.hid hnQ
      have HDW : Hid (wr.heap[s]? = some (.cells (bxA t A c A' c') 28 (0, 0))) := (hbw.block s (by omega)).trans HD0.out
      have hnb : nQ ≤ 100001 := by
        have h1 := flatL_len (t.kids.take i) x y
        have h2 := cnt_take_le t.kids i
        have := HN.out
        omega
      clear hown hbw hnQ
      by_cases hlt : i < t.kids.length
      · obtain ⟨kb, ko, A1, c1, A2, c2, rfl, _, hkb, hat, hk1, -⟩ := HK.out.at hlt
        have hat' : ∀ W', Below (s + 1) W0 W' → ∀ j, j < 11 → W'.cell? ⟨kb, ko + i * 11 + j, none⟩ = (bxA (kidAt t.kids i) A1 c1 A2 c2)[j]? := fun W' hW j hj => by
          have h1 := HS0.out
          have hw : Below w.heap.size w W' := HB0.out.trans (hW.mono (by omega))
          exact (hw.cell (p := ⟨kb, ko + i * 11 + j, none⟩) hkb).trans (hat j hj)
        have hcu : cntB (kidAt t.kids i) ≤ n := by have := cnt_kid t.kids hlt; have := HN.out; omega
        have HTK : Hid (flatL (t.kids.take (i + 1)) x y = flatL (t.kids.take i) x y ++ flatB (kidAt t.kids i) (IntKind.i64.wrap (x + (kidAt t.kids i).x)) (IntKind.i64.wrap (y + (kidAt t.kids i).y))) := flat_take hlt x y
        have HKU : Hid (∀ W', Below (s + 1) W0 W' → Kids W' 0 W'.heap.size A1 (kidAt t.kids i).kids) := fun W' hW => by
          have h1 := HS0.out
          exact hk1.next (HB0.out.trans (hW.mono (by omega)))
        generalize kidAt t.kids i = u at hat' hcu HTK HKU
        obtain ⟨x', hx'⟩ : ∃ x', IntKind.i64.wrap (x + u.x) = x' := ⟨_, rfl⟩
        obtain ⟨y', hy'⟩ : ∃ y', IntKind.i64.wrap (y + u.y) = y' := ⟨_, rfl⟩
        rw [hx', hy'] at HTK
        have HCT : Hid (∀ W', Below (s + 1) W0 W' → Calls Try.prog 20 #[.agg (bxA u A1 c1 A2 c2), .int .i64 x', .int .i64 y'] W' (FlatPost (flatB u x' y') W')) := fun W' hW => IH.out u hcu (by have := HN.out; omega) A1 c1 A2 c2 x' y' W' (HKU.out W' hW)
        have hFl := flat_len n u hcu x' y'
        have hFn : (flatB u x' y').length ≤ 100000 := by have := HN.out; omega
        generalize flatB u x' y' = F at HTK HCT hFn
        unfold FlatPost at HCT
        have HS : Hid (∀ W', Below (s + 1) W0 W' → (W'.cell? ⟨s, 8, none⟩ = some (.slice (some ⟨kb, ko, none⟩) t.kids.length c) ∧ W'.cell? ⟨kb, ko + i * 11, none⟩ = some (.int .i64 u.k) ∧ W'.cell? ⟨kb, ko + i * 11 + 1, none⟩ = some (.string u.nm) ∧ W'.cell? ⟨kb, ko + i * 11 + 2, none⟩ = some (.int .i64 u.sz) ∧ W'.cell? ⟨kb, ko + i * 11 + 3, none⟩ = some (.int .i64 u.w) ∧ W'.cell? ⟨kb, ko + i * 11 + 4, none⟩ = some (.int .i64 u.h) ∧ W'.cell? ⟨kb, ko + i * 11 + 5, none⟩ = some (.int .i64 u.d) ∧ W'.cell? ⟨kb, ko + i * 11 + 6, none⟩ = some (.int .i64 u.x) ∧ W'.cell? ⟨kb, ko + i * 11 + 7, none⟩ = some (.int .i64 u.y) ∧ W'.cell? ⟨kb, ko + i * 11 + 8, none⟩ = some (.slice A1 u.kids.length c1) ∧ W'.cell? ⟨kb, ko + i * 11 + 9, none⟩ = some (.int .i64 u.of_) ∧ W'.cell? ⟨kb, ko + i * 11 + 10, none⟩ = some (.slice A2 u.src.length c2))) := fun W' hW => by
          have h8 := (hW.block s (by have := HS0.out; omega)).trans HD0.out
          exact ⟨blk_cell h8 8 _ rfl, hat' W' hW 0 (by omega), hat' W' hW 1 (by omega), hat' W' hW 2 (by omega), hat' W' hW 3 (by omega), hat' W' hW 4 (by omega), hat' W' hW 5 (by omega), hat' W' hW 6 (by omega), hat' W' hW 7 (by omega), hat' W' hW 8 (by omega), hat' W' hW 9 (by omega), hat' W' hW 10 (by omega)⟩
        have hbd : Below (s + 1) W0 wr.drew := HBW.out.drew
        have hbr : Below wr.heap.size wr wr.drew := (Below.refl _ _).drew
        have hsz0 : s + 1 ≤ W0.heap.size := by have := HS0.out; omega
        have y8 : wr.cell? ⟨s, 8, none⟩ = some (.slice (some ⟨kb, ko, none⟩) t.kids.length c) := blk_cell HDW.out 8 _ rfl
        clear hat hat' hcu hFl hk1
        go_wp2_with fail
        clear y8
        go_region_held3 (fun W => W.cell? ⟨s, 8, none⟩ = some (.slice (some ⟨kb, ko, none⟩) t.kids.length c) ∧ W.cell? ⟨kb, ko + i * 11, none⟩ = some (.int .i64 u.k) ∧ W.cell? ⟨kb, ko + i * 11 + 1, none⟩ = some (.string u.nm) ∧ W.cell? ⟨kb, ko + i * 11 + 2, none⟩ = some (.int .i64 u.sz) ∧ W.cell? ⟨kb, ko + i * 11 + 3, none⟩ = some (.int .i64 u.w) ∧ W.cell? ⟨kb, ko + i * 11 + 4, none⟩ = some (.int .i64 u.h) ∧ W.cell? ⟨kb, ko + i * 11 + 5, none⟩ = some (.int .i64 u.d) ∧ W.cell? ⟨kb, ko + i * 11 + 6, none⟩ = some (.int .i64 u.x) ∧ W.cell? ⟨kb, ko + i * 11 + 7, none⟩ = some (.int .i64 u.y) ∧ W.cell? ⟨kb, ko + i * 11 + 8, none⟩ = some (.slice A1 u.kids.length c1) ∧ W.cell? ⟨kb, ko + i * 11 + 9, none⟩ = some (.int .i64 u.of_) ∧ W.cell? ⟨kb, ko + i * 11 + 10, none⟩ = some (.slice A2 u.src.length c2)) (first | exact HS.out _ (by with_reducible assumption))
          (first
            | (go_at_call 20; refine (HCT.out _ (by with_reducible assumption)).mono ?_; rintro e w4 ⟨⟨A3, c3, rfl, hp4⟩, hb4⟩; have hbS : Below (s + 1) W0 w4 := below_up (by with_reducible assumption) hsz0 hb4; have hbR : Below wr.heap.size wr w4 := below_next (by with_reducible assumption) hb4)
            | (refine step_append_many rfl (.tmp 49) (.tmp 71) 42 45 rfl i2 _ 8 72 Try.underlying42 hi2 hz0 hz1 hz2 rfl (by omega) rfl (own_below HOQ.out hbR) rfl (plC F) (plC_len F) (fun h0 => by obtain ⟨b, off, h1, _, h2⟩ := hp4 h0; exact ⟨b, off, h1, h2⟩) (plC_one F) (by unfold maxLen; omega) (by omega) (by have := hbS.size; omega) ?_; intro A5 c5 w5 hown5 hb5; have hbE : Below (s + 1) W0 w5 := hbS.trans hb5))
        all_goals
          have HO5 := Lib.hid hown5
          have HBE := Lib.hid hbE
          clear hown5 hb5 hbE hbS hbR hp4 hb4 hbd hbr
          go_wp2_with fail
          go_roundw
          case rel => exact ⟨i + 1, A5, _, c5, by omega, by go_num, rfl, by rw [HNQ.out, HTK.out, List.length_append, Nat.add_assoc], by rw [HTK.out, ← List.append_assoc, plC_append]; exact HO5.out, HBE.out⟩
          case measure => simp [intOf]; omega
      · obtain rfl : i = t.kids.length := by omega
        have hF : flatB t x y = ownPl t x y ++ flatL (t.kids.take t.kids.length) x y := by rw [List.take_length, flatB_eq]
        have HF := Lib.hid hF
        have HFL : Hid (nQ = (flatB t x y).length) := by show _ = _; rw [hF, List.length_append]; exact HNQ.out
        have y8 : wr.cell? ⟨s, 8, none⟩ = some (.slice A t.kids.length c) := blk_cell HDW.out 8 _ rfl
        clear hF
        go_wp2
        go_ret
        have h1 := HS0.out
        refine ⟨⟨AQ, cQ, by rw [HFL.out]; rfl, fun h0 => ?_⟩, HB0.out.trans (HBW.out.mono (by omega))⟩
        have ho := HOQ.out
        rw [← HF.out, HFL.out] at ho
        obtain ⟨g, rfl, _, h3, _, h5⟩ := own_cell ho h0
        exact ⟨g, 0, rfl, h3, fun j u hu => by rw [Nat.zero_add]; exact h5 j u hu⟩
  · obtain ⟨W2, hW2⟩ : ∃ W2, W0.alloc (.cells (Pl.row ⟨2, 0, ⟨#[]⟩, x, y, ww, hh, dd⟩) 45) = W2 := ⟨_, rfl⟩
    have HD2 : Hid (W2.heap[s + 1]? = some (.cells (Pl.row ⟨2, 0, ⟨#[]⟩, x, y, ww, hh, dd⟩) 45 (0, 0))) := by rw [← hW2, ← hs0]; exact blk_new _ _
    have a1 : W2.heap[s]? = some (.cells (bxA t A c A' c') 28 (0, 0)) := by rw [← hW2]; exact blk_more HD0.out _
    have HBW : Hid (Below (s + 1) W0 W2) := by rw [← hW2]; exact (Below.refl _ _).alloc (by omega) _
    have f0 : W2.cell? ⟨s, 0, none⟩ = some (.int .i64 2) := by rw [← HNM.out.1]; exact blk_cell a1 0 _ rfl
    have HPL : Hid (ownPl t x y = [⟨2, 0, ⟨#[]⟩, x, y, ww, hh, dd⟩]) := by show _ = _; rw [ownPl_2 HNM.out.1, HNM.out.2.1, HNM.out.2.2.1, HNM.out.2.2.2.1]
    clear a1
    have HC2 : Hid (∀ j, j < 8 → W2.cell? ⟨s + 1, 0 + j, none⟩ = (Pl.row ⟨2, 0, ⟨#[]⟩, x, y, ww, hh, dd⟩)[j]?) := fun j _ => by rw [Nat.zero_add]; exact cell_of_row _ _ _ _ _ _ HD2.out
    have HA2 : Hid ((W2.alloc (.cells (Pl.row ⟨2, 0, ⟨#[]⟩, x, y, ww, hh, dd⟩) 45)).heap[W2.heap.size]? = some (.cells (Pl.row ⟨2, 0, ⟨#[]⟩, x, y, ww, hh, dd⟩) 45 (0, 0))) := blk_new _ _
    have HSZ2 : Hid (s + 1 ≤ (W2.alloc (.cells (Pl.row ⟨2, 0, ⟨#[]⟩, x, y, ww, hh, dd⟩) 45)).heap.size) := by
      show _ ≤ _
      have := HBW.out.size
      have := HS0.out.2
      rw [World.size_alloc]; omega
    go_wp2_with (first
      | ((with_reducible refine at_load 45 ?_); go_loud (refine wpList_load_all i2 8 hi2 hz1 _ Try.underlying45 rfl rfl HC2.out ?_))
      | (at_builtin; refine wpList_append_el rfl _ _ 42 45 rfl i2 _ 8 72 Try.underlying42 hi2 hz0 hz1 hz2 rfl (by omega) (A := none) (c := 0) (n := 0) (xs := []) rfl ⟨rfl, .inl ⟨rfl, rfl⟩⟩ rfl HA2.out rfl (Pl.row_one ⟨2, 0, ⟨#[]⟩, x, y, ww, hh, dd⟩) (by unfold maxLen; omega) (by omega) HSZ2.out ?_; intro AO cO W3 hownO hbO; have HO := Lib.hid hownO; have HBO := Lib.hid hbO; clear hownO hbO))
    have HO3 : Hid (W3.ownsRow (s + 1) 45 8 (.slice AO 1 cO) 1 (plC [⟨2, 0, ⟨#[]⟩, x, y, ww, hh, dd⟩])) := by
      have h := HO.out
      rw [List.nil_append] at h
      have e : plC [⟨2, 0, ⟨#[]⟩, x, y, ww, hh, dd⟩] = (Pl.row ⟨2, 0, ⟨#[]⟩, x, y, ww, hh, dd⟩).toList := by simp [plC]
      rw [e]
      exact h
    have HB3 : Hid (Below (s + 1) W0 W3) := (HBW.out.alloc (Nat.le_trans (Nat.le_of_eq HS0.out.2.symm) HBW.out.size) _).trans HBO.out
    clear HO HBO HA2 HSZ2 HC2 HD2 HBW
    go_wp2_with fail
    go_loopw [7, 9] (fun v q wr => ∃ (i : Nat) (AQ : Option Addr) (nQ cQ : Nat), i ≤ t.kids.length ∧ q = .int .i64 (i : Int) ∧ v = .slice AQ nQ cQ ∧ nQ = (ownPl t x y).length + (flatL (t.kids.take i) x y).length ∧ wr.ownsRow (s + 1) 45 8 (.slice AQ nQ cQ) nQ (plC (ownPl t x y ++ flatL (t.kids.take i) x y)) ∧ Below (s + 1) W0 wr) (fun _ q _ => t.kids.length - (intOf q).toNat)
    case atStart => exact ⟨0, AO, 1, cO, Nat.zero_le _, rfl, rfl, by rw [List.take_zero, flatL_nil, HPL.out]; rfl, by rw [List.take_zero, flatL_nil, List.append_nil, HPL.out]; exact HO3.out, HB3.out⟩
    case round =>
      obtain ⟨i, AQ, nQ, cQ, hi, rfl, rfl, hnQ, hown, hbw⟩ := hrel
      have HOQ := Lib.hid hown
      have HBW := Lib.hid hbw
      have HNQ := Lib.hid hnQ
      have HDW : Hid (wr.heap[s]? = some (.cells (bxA t A c A' c') 28 (0, 0))) := (hbw.block s (by omega)).trans HD0.out
      have hnb : nQ ≤ 100001 := by
        have h1 := flatL_len (t.kids.take i) x y
        have h2 := cnt_take_le t.kids i
        have := HN.out
        omega
      clear hown hbw hnQ
      by_cases hlt : i < t.kids.length
      · obtain ⟨kb, ko, A1, c1, A2, c2, rfl, _, hkb, hat, hk1, -⟩ := HK.out.at hlt
        have hat' : ∀ W', Below (s + 1) W0 W' → ∀ j, j < 11 → W'.cell? ⟨kb, ko + i * 11 + j, none⟩ = (bxA (kidAt t.kids i) A1 c1 A2 c2)[j]? := fun W' hW j hj => by
          have h1 := HS0.out
          have hw : Below w.heap.size w W' := HB0.out.trans (hW.mono (by omega))
          exact (hw.cell (p := ⟨kb, ko + i * 11 + j, none⟩) hkb).trans (hat j hj)
        have hcu : cntB (kidAt t.kids i) ≤ n := by have := cnt_kid t.kids hlt; have := HN.out; omega
        have HTK : Hid (flatL (t.kids.take (i + 1)) x y = flatL (t.kids.take i) x y ++ flatB (kidAt t.kids i) (IntKind.i64.wrap (x + (kidAt t.kids i).x)) (IntKind.i64.wrap (y + (kidAt t.kids i).y))) := flat_take hlt x y
        have HKU : Hid (∀ W', Below (s + 1) W0 W' → Kids W' 0 W'.heap.size A1 (kidAt t.kids i).kids) := fun W' hW => by
          have h1 := HS0.out
          exact hk1.next (HB0.out.trans (hW.mono (by omega)))
        generalize kidAt t.kids i = u at hat' hcu HTK HKU
        obtain ⟨x', hx'⟩ : ∃ x', IntKind.i64.wrap (x + u.x) = x' := ⟨_, rfl⟩
        obtain ⟨y', hy'⟩ : ∃ y', IntKind.i64.wrap (y + u.y) = y' := ⟨_, rfl⟩
        rw [hx', hy'] at HTK
        have HCT : Hid (∀ W', Below (s + 1) W0 W' → Calls Try.prog 20 #[.agg (bxA u A1 c1 A2 c2), .int .i64 x', .int .i64 y'] W' (FlatPost (flatB u x' y') W')) := fun W' hW => IH.out u hcu (by have := HN.out; omega) A1 c1 A2 c2 x' y' W' (HKU.out W' hW)
        have hFl := flat_len n u hcu x' y'
        have hFn : (flatB u x' y').length ≤ 100000 := by have := HN.out; omega
        generalize flatB u x' y' = F at HTK HCT hFn
        unfold FlatPost at HCT
        have HS : Hid (∀ W', Below (s + 1) W0 W' → (W'.cell? ⟨s, 8, none⟩ = some (.slice (some ⟨kb, ko, none⟩) t.kids.length c) ∧ W'.cell? ⟨kb, ko + i * 11, none⟩ = some (.int .i64 u.k) ∧ W'.cell? ⟨kb, ko + i * 11 + 1, none⟩ = some (.string u.nm) ∧ W'.cell? ⟨kb, ko + i * 11 + 2, none⟩ = some (.int .i64 u.sz) ∧ W'.cell? ⟨kb, ko + i * 11 + 3, none⟩ = some (.int .i64 u.w) ∧ W'.cell? ⟨kb, ko + i * 11 + 4, none⟩ = some (.int .i64 u.h) ∧ W'.cell? ⟨kb, ko + i * 11 + 5, none⟩ = some (.int .i64 u.d) ∧ W'.cell? ⟨kb, ko + i * 11 + 6, none⟩ = some (.int .i64 u.x) ∧ W'.cell? ⟨kb, ko + i * 11 + 7, none⟩ = some (.int .i64 u.y) ∧ W'.cell? ⟨kb, ko + i * 11 + 8, none⟩ = some (.slice A1 u.kids.length c1) ∧ W'.cell? ⟨kb, ko + i * 11 + 9, none⟩ = some (.int .i64 u.of_) ∧ W'.cell? ⟨kb, ko + i * 11 + 10, none⟩ = some (.slice A2 u.src.length c2))) := fun W' hW => by
          have h8 := (hW.block s (by have := HS0.out; omega)).trans HD0.out
          exact ⟨blk_cell h8 8 _ rfl, hat' W' hW 0 (by omega), hat' W' hW 1 (by omega), hat' W' hW 2 (by omega), hat' W' hW 3 (by omega), hat' W' hW 4 (by omega), hat' W' hW 5 (by omega), hat' W' hW 6 (by omega), hat' W' hW 7 (by omega), hat' W' hW 8 (by omega), hat' W' hW 9 (by omega), hat' W' hW 10 (by omega)⟩
        have hbd : Below (s + 1) W0 wr.drew := HBW.out.drew
        have hbr : Below wr.heap.size wr wr.drew := (Below.refl _ _).drew
        have hsz0 : s + 1 ≤ W0.heap.size := by have := HS0.out; omega
        have y8 : wr.cell? ⟨s, 8, none⟩ = some (.slice (some ⟨kb, ko, none⟩) t.kids.length c) := blk_cell HDW.out 8 _ rfl
        clear hat hat' hcu hFl hk1
        go_wp2_with fail
        clear y8
        go_region_held3 (fun W => W.cell? ⟨s, 8, none⟩ = some (.slice (some ⟨kb, ko, none⟩) t.kids.length c) ∧ W.cell? ⟨kb, ko + i * 11, none⟩ = some (.int .i64 u.k) ∧ W.cell? ⟨kb, ko + i * 11 + 1, none⟩ = some (.string u.nm) ∧ W.cell? ⟨kb, ko + i * 11 + 2, none⟩ = some (.int .i64 u.sz) ∧ W.cell? ⟨kb, ko + i * 11 + 3, none⟩ = some (.int .i64 u.w) ∧ W.cell? ⟨kb, ko + i * 11 + 4, none⟩ = some (.int .i64 u.h) ∧ W.cell? ⟨kb, ko + i * 11 + 5, none⟩ = some (.int .i64 u.d) ∧ W.cell? ⟨kb, ko + i * 11 + 6, none⟩ = some (.int .i64 u.x) ∧ W.cell? ⟨kb, ko + i * 11 + 7, none⟩ = some (.int .i64 u.y) ∧ W.cell? ⟨kb, ko + i * 11 + 8, none⟩ = some (.slice A1 u.kids.length c1) ∧ W.cell? ⟨kb, ko + i * 11 + 9, none⟩ = some (.int .i64 u.of_) ∧ W.cell? ⟨kb, ko + i * 11 + 10, none⟩ = some (.slice A2 u.src.length c2)) (first | exact HS.out _ (by with_reducible assumption))
          (first
            | (go_at_call 20; refine (HCT.out _ (by with_reducible assumption)).mono ?_; rintro e w4 ⟨⟨A3, c3, rfl, hp4⟩, hb4⟩; have hbS : Below (s + 1) W0 w4 := below_up (by with_reducible assumption) hsz0 hb4; have hbR : Below wr.heap.size wr w4 := below_next (by with_reducible assumption) hb4)
            | (refine step_append_many rfl (.tmp 49) (.tmp 71) 42 45 rfl i2 _ 8 72 Try.underlying42 hi2 hz0 hz1 hz2 rfl (by omega) rfl (own_below HOQ.out hbR) rfl (plC F) (plC_len F) (fun h0 => by obtain ⟨b, off, h1, _, h2⟩ := hp4 h0; exact ⟨b, off, h1, h2⟩) (plC_one F) (by unfold maxLen; omega) (by omega) (by have := hbS.size; omega) ?_; intro A5 c5 w5 hown5 hb5; have hbE : Below (s + 1) W0 w5 := hbS.trans hb5))
        all_goals
          have HO5 := Lib.hid hown5
          have HBE := Lib.hid hbE
          clear hown5 hb5 hbE hbS hbR hp4 hb4 hbd hbr
          go_wp2_with fail
          go_roundw
          case rel => exact ⟨i + 1, A5, _, c5, by omega, by go_num, rfl, by rw [HNQ.out, HTK.out, List.length_append, Nat.add_assoc], by rw [HTK.out, ← List.append_assoc, plC_append]; exact HO5.out, HBE.out⟩
          case measure => simp [intOf]; omega
      · obtain rfl : i = t.kids.length := by omega
        have hF : flatB t x y = ownPl t x y ++ flatL (t.kids.take t.kids.length) x y := by rw [List.take_length, flatB_eq]
        have HF := Lib.hid hF
        have HFL : Hid (nQ = (flatB t x y).length) := by show _ = _; rw [hF, List.length_append]; exact HNQ.out
        have y8 : wr.cell? ⟨s, 8, none⟩ = some (.slice A t.kids.length c) := blk_cell HDW.out 8 _ rfl
        clear hF
        go_wp2
        go_ret
        have h1 := HS0.out
        refine ⟨⟨AQ, cQ, by rw [HFL.out]; rfl, fun h0 => ?_⟩, HB0.out.trans (HBW.out.mono (by omega))⟩
        have ho := HOQ.out
        rw [← HF.out, HFL.out] at ho
        obtain ⟨g, rfl, _, h3, _, h5⟩ := own_cell ho h0
        exact ⟨g, 0, rfl, h3, fun j u hu => by rw [Nat.zero_add]; exact h5 j u hu⟩
  · have HPL : Hid (ownPl t x y = []) := ownPl_0 (by rw [HNM.out.1]; exact hk1) (by rw [HNM.out.1]; exact hk2)
    have n1 : (kk == 1) = false := by rw [beq_eq_false_iff_ne]; exact hk1
    have n2 : (kk == 2) = false := by rw [beq_eq_false_iff_ne]; exact hk2
    have HO3 : Hid (W0.ownsRow (s + 1) 45 8 (.slice none 0 0) 0 (plC [])) := ⟨rfl, .inl ⟨rfl, rfl⟩⟩
    have HB3 : Hid (Below (s + 1) W0 W0) := Below.refl _ _
    go_wp2_with fail
    go_loopw [7, 9] (fun v q wr => ∃ (i : Nat) (AQ : Option Addr) (nQ cQ : Nat), i ≤ t.kids.length ∧ q = .int .i64 (i : Int) ∧ v = .slice AQ nQ cQ ∧ nQ = (ownPl t x y).length + (flatL (t.kids.take i) x y).length ∧ wr.ownsRow (s + 1) 45 8 (.slice AQ nQ cQ) nQ (plC (ownPl t x y ++ flatL (t.kids.take i) x y)) ∧ Below (s + 1) W0 wr) (fun _ q _ => t.kids.length - (intOf q).toNat)
    case atStart => exact ⟨0, none, 0, 0, Nat.zero_le _, rfl, rfl, by rw [List.take_zero, flatL_nil, HPL.out]; rfl, by rw [List.take_zero, flatL_nil, List.append_nil, HPL.out]; exact HO3.out, HB3.out⟩
    case round =>
      obtain ⟨i, AQ, nQ, cQ, hi, rfl, rfl, hnQ, hown, hbw⟩ := hrel
      have HOQ := Lib.hid hown
      have HBW := Lib.hid hbw
      have HNQ := Lib.hid hnQ
      have HDW : Hid (wr.heap[s]? = some (.cells (bxA t A c A' c') 28 (0, 0))) := (hbw.block s (by omega)).trans HD0.out
      have hnb : nQ ≤ 100001 := by
        have h1 := flatL_len (t.kids.take i) x y
        have h2 := cnt_take_le t.kids i
        have := HN.out
        omega
      clear hown hbw hnQ
      by_cases hlt : i < t.kids.length
      · obtain ⟨kb, ko, A1, c1, A2, c2, rfl, _, hkb, hat, hk1, -⟩ := HK.out.at hlt
        have hat' : ∀ W', Below (s + 1) W0 W' → ∀ j, j < 11 → W'.cell? ⟨kb, ko + i * 11 + j, none⟩ = (bxA (kidAt t.kids i) A1 c1 A2 c2)[j]? := fun W' hW j hj => by
          have h1 := HS0.out
          have hw : Below w.heap.size w W' := HB0.out.trans (hW.mono (by omega))
          exact (hw.cell (p := ⟨kb, ko + i * 11 + j, none⟩) hkb).trans (hat j hj)
        have hcu : cntB (kidAt t.kids i) ≤ n := by have := cnt_kid t.kids hlt; have := HN.out; omega
        have HTK : Hid (flatL (t.kids.take (i + 1)) x y = flatL (t.kids.take i) x y ++ flatB (kidAt t.kids i) (IntKind.i64.wrap (x + (kidAt t.kids i).x)) (IntKind.i64.wrap (y + (kidAt t.kids i).y))) := flat_take hlt x y
        have HKU : Hid (∀ W', Below (s + 1) W0 W' → Kids W' 0 W'.heap.size A1 (kidAt t.kids i).kids) := fun W' hW => by
          have h1 := HS0.out
          exact hk1.next (HB0.out.trans (hW.mono (by omega)))
        generalize kidAt t.kids i = u at hat' hcu HTK HKU
        obtain ⟨x', hx'⟩ : ∃ x', IntKind.i64.wrap (x + u.x) = x' := ⟨_, rfl⟩
        obtain ⟨y', hy'⟩ : ∃ y', IntKind.i64.wrap (y + u.y) = y' := ⟨_, rfl⟩
        rw [hx', hy'] at HTK
        have HCT : Hid (∀ W', Below (s + 1) W0 W' → Calls Try.prog 20 #[.agg (bxA u A1 c1 A2 c2), .int .i64 x', .int .i64 y'] W' (FlatPost (flatB u x' y') W')) := fun W' hW => IH.out u hcu (by have := HN.out; omega) A1 c1 A2 c2 x' y' W' (HKU.out W' hW)
        have hFl := flat_len n u hcu x' y'
        have hFn : (flatB u x' y').length ≤ 100000 := by have := HN.out; omega
        generalize flatB u x' y' = F at HTK HCT hFn
        unfold FlatPost at HCT
        have HS : Hid (∀ W', Below (s + 1) W0 W' → (W'.cell? ⟨s, 8, none⟩ = some (.slice (some ⟨kb, ko, none⟩) t.kids.length c) ∧ W'.cell? ⟨kb, ko + i * 11, none⟩ = some (.int .i64 u.k) ∧ W'.cell? ⟨kb, ko + i * 11 + 1, none⟩ = some (.string u.nm) ∧ W'.cell? ⟨kb, ko + i * 11 + 2, none⟩ = some (.int .i64 u.sz) ∧ W'.cell? ⟨kb, ko + i * 11 + 3, none⟩ = some (.int .i64 u.w) ∧ W'.cell? ⟨kb, ko + i * 11 + 4, none⟩ = some (.int .i64 u.h) ∧ W'.cell? ⟨kb, ko + i * 11 + 5, none⟩ = some (.int .i64 u.d) ∧ W'.cell? ⟨kb, ko + i * 11 + 6, none⟩ = some (.int .i64 u.x) ∧ W'.cell? ⟨kb, ko + i * 11 + 7, none⟩ = some (.int .i64 u.y) ∧ W'.cell? ⟨kb, ko + i * 11 + 8, none⟩ = some (.slice A1 u.kids.length c1) ∧ W'.cell? ⟨kb, ko + i * 11 + 9, none⟩ = some (.int .i64 u.of_) ∧ W'.cell? ⟨kb, ko + i * 11 + 10, none⟩ = some (.slice A2 u.src.length c2))) := fun W' hW => by
          have h8 := (hW.block s (by have := HS0.out; omega)).trans HD0.out
          exact ⟨blk_cell h8 8 _ rfl, hat' W' hW 0 (by omega), hat' W' hW 1 (by omega), hat' W' hW 2 (by omega), hat' W' hW 3 (by omega), hat' W' hW 4 (by omega), hat' W' hW 5 (by omega), hat' W' hW 6 (by omega), hat' W' hW 7 (by omega), hat' W' hW 8 (by omega), hat' W' hW 9 (by omega), hat' W' hW 10 (by omega)⟩
        have hbd : Below (s + 1) W0 wr.drew := HBW.out.drew
        have hbr : Below wr.heap.size wr wr.drew := (Below.refl _ _).drew
        have hsz0 : s + 1 ≤ W0.heap.size := by have := HS0.out; omega
        have y8 : wr.cell? ⟨s, 8, none⟩ = some (.slice (some ⟨kb, ko, none⟩) t.kids.length c) := blk_cell HDW.out 8 _ rfl
        clear hat hat' hcu hFl hk1
        go_wp2_with fail
        clear y8
        go_region_held3 (fun W => W.cell? ⟨s, 8, none⟩ = some (.slice (some ⟨kb, ko, none⟩) t.kids.length c) ∧ W.cell? ⟨kb, ko + i * 11, none⟩ = some (.int .i64 u.k) ∧ W.cell? ⟨kb, ko + i * 11 + 1, none⟩ = some (.string u.nm) ∧ W.cell? ⟨kb, ko + i * 11 + 2, none⟩ = some (.int .i64 u.sz) ∧ W.cell? ⟨kb, ko + i * 11 + 3, none⟩ = some (.int .i64 u.w) ∧ W.cell? ⟨kb, ko + i * 11 + 4, none⟩ = some (.int .i64 u.h) ∧ W.cell? ⟨kb, ko + i * 11 + 5, none⟩ = some (.int .i64 u.d) ∧ W.cell? ⟨kb, ko + i * 11 + 6, none⟩ = some (.int .i64 u.x) ∧ W.cell? ⟨kb, ko + i * 11 + 7, none⟩ = some (.int .i64 u.y) ∧ W.cell? ⟨kb, ko + i * 11 + 8, none⟩ = some (.slice A1 u.kids.length c1) ∧ W.cell? ⟨kb, ko + i * 11 + 9, none⟩ = some (.int .i64 u.of_) ∧ W.cell? ⟨kb, ko + i * 11 + 10, none⟩ = some (.slice A2 u.src.length c2)) (first | exact HS.out _ (by with_reducible assumption))
          (first
            | (go_at_call 20; refine (HCT.out _ (by with_reducible assumption)).mono ?_; rintro e w4 ⟨⟨A3, c3, rfl, hp4⟩, hb4⟩; have hbS : Below (s + 1) W0 w4 := below_up (by with_reducible assumption) hsz0 hb4; have hbR : Below wr.heap.size wr w4 := below_next (by with_reducible assumption) hb4)
            | (refine step_append_many rfl (.tmp 49) (.tmp 71) 42 45 rfl i2 _ 8 72 Try.underlying42 hi2 hz0 hz1 hz2 rfl (by omega) rfl (own_below HOQ.out hbR) rfl (plC F) (plC_len F) (fun h0 => by obtain ⟨b, off, h1, _, h2⟩ := hp4 h0; exact ⟨b, off, h1, h2⟩) (plC_one F) (by unfold maxLen; omega) (by omega) (by have := hbS.size; omega) ?_; intro A5 c5 w5 hown5 hb5; have hbE : Below (s + 1) W0 w5 := hbS.trans hb5))
        all_goals
          have HO5 := Lib.hid hown5
          have HBE := Lib.hid hbE
          clear hown5 hb5 hbE hbS hbR hp4 hb4 hbd hbr
          go_wp2_with fail
          go_roundw
          case rel => exact ⟨i + 1, A5, _, c5, by omega, by go_num, rfl, by rw [HNQ.out, HTK.out, List.length_append, Nat.add_assoc], by rw [HTK.out, ← List.append_assoc, plC_append]; exact HO5.out, HBE.out⟩
          case measure => simp [intOf]; omega
      · obtain rfl : i = t.kids.length := by omega
        have hF : flatB t x y = ownPl t x y ++ flatL (t.kids.take t.kids.length) x y := by rw [List.take_length, flatB_eq]
        have HF := Lib.hid hF
        have HFL : Hid (nQ = (flatB t x y).length) := by show _ = _; rw [hF, List.length_append]; exact HNQ.out
        have y8 : wr.cell? ⟨s, 8, none⟩ = some (.slice A t.kids.length c) := blk_cell HDW.out 8 _ rfl
        clear hF
        go_wp2
        go_ret
        have h1 := HS0.out
        refine ⟨⟨AQ, cQ, by rw [HFL.out]; rfl, fun h0 => ?_⟩, HB0.out.trans (HBW.out.mono (by omega))⟩
        have ho := HOQ.out
        rw [← HF.out, HFL.out] at ho
        obtain ⟨g, rfl, _, h3, _, h5⟩ := own_cell ho h0
        exact ⟨g, 0, rfl, h3, fun j u hu => by rw [Nat.zero_add]; exact h5 j u hu⟩
end Go.Proofs.Ytjckbdbjcgjcaaa
