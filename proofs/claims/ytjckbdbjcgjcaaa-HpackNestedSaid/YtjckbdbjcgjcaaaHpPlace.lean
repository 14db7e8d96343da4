/- The reference's place: the walk. -/
import Derived.Test.YtjckbdbjcgjcaaaHpRow
namespace Go.Proofs.Ytjckbdbjcgjcaaa
open Go.RowKit
/-- The cells of the list under work. -/
abbrev olB (W H D : Int) (A : Option Addr) (n c : Nat) : Array Value :=
  #[.int .i64 3, .string ⟨#[]⟩, .int .i64 0, .int .i64 W, .int .i64 H, .int .i64 D, .int .i64 0, .int .i64 0, .slice A n c, .int .i64 0, .slice none 0 0]
theorem own_same {w w' : World} {base n c size : Nat} {e : TypeId} {A : Option Addr} {xs : List Value} (h : w.ownsRow base e size (.slice A n c) n xs) (hb : ∀ k, base ≤ k → k < w.heap.size → w'.heap[k]? = w.heap[k]?) : w'.ownsRow base e size (.slice A n c) n xs := by
  obtain ⟨h1, h2⟩ := h
  refine ⟨h1, ?_⟩
  rcases h2 with h2 | ⟨g', cap, cur, h3, h4, h5, h6⟩
  · exact .inl h2
  · exact .inr ⟨_, _, cur, h3, h4, (hb g' h4 (Array.getElem?_eq_some_iff.1 h5).1).trans h5, h6⟩
/-- The list after i kids. -/
structure PS (n₀ : Nat) (w : World) (l : List Bx) (P : Nat → Int) (Wd : Int) (i : Nat) (A : Option Addr) (cx : Nat) (Q : List Q5) (W : World) : Prop where
  map : Q.map Q5.t = (movedX l P).take i
  lies : ∀ q ∈ Q, Lies w 0 n₀ q
  box : W.heap[w.heap.size + 1]? = some (.cells (olB Wd (maxH l i) (maxD l i) A i cx) 28 (0, 0))
  own : W.ownsRow (w.heap.size + 1 + 1) 28 11 (.slice A i cx) i (rowC Q)
  zero : W.heap[w.heap.size]? = some (.cells zeroBox 28 (0, 0))
  bel : Below w.heap.size w W
theorem PS.kids {n₀ : Nat} {w : World} {l : List Bx} {P : Nat → Int} {Wd : Int} {A : Option Addr} {cx : Nat} {Q : List Q5} {W W' : World} (h : PS n₀ w l P Wd l.length A cx Q W) (hn : n₀ ≤ w.heap.size) (hs : W.heap.size ≤ W'.heap.size) (hW : ∀ k, k < n₀ ∨ w.heap.size + 2 ≤ k → k < W.heap.size → W'.heap[k]? = W.heap[k]?) : Kids W' 0 W'.heap.size A (movedX l P) := by
  have hm := h.map
  have hbs := h.bel.size
  rw [← movedX_len l P, List.take_length] at hm
  by_cases h0 : 0 < l.length
  · obtain ⟨g1, rfl, h1, h2, h3, h4⟩ := own_cell (own_same h.own fun k hk1 hk2 => hW k (.inr (by omega)) hk2) h0
    rw [← hm]
    refine kids_row (fun k u hu => by rw [Nat.zero_add]; exact h4 k u hu) (Nat.zero_le _) h2 fun q hq => ?_
    refine ((h.lies q hq).same (w' := W') fun b o _ hb => cell_of_heap ?_).mono (Nat.zero_le _) (by omega)
    rw [hW b (.inl hb) (by omega)]
    exact h.bel.block b (by omega)
  · have : movedX l P = [] := List.eq_nil_of_length_eq_zero (by rw [movedX_len]; omega)
    rw [this]
    exact Kids.nil _ _ _ _
theorem olB_row {l : List Bx} {P : Nat → Int} {Wd : Int} {A : Option Addr} {cx : Nat} : olB Wd (maxH l l.length) (maxD l l.length) A l.length cx = bxA (rowB l P Wd) A cx none 0 := by
  have e3 : bxA (rowB l P Wd) A cx none 0 = #[.int .i64 3, .string ⟨#[]⟩, .int .i64 0, .int .i64 Wd, .int .i64 (maxH l l.length), .int .i64 (maxD l l.length), .int .i64 0, .int .i64 0, .slice A (movedX l P).length cx, .int .i64 0, .slice none 0 0] := rfl
  rw [e3, movedX_len]
/-- A row of boxes whose own memory lies below n₀; the row itself lies anywhere. -/
def RowIn (w : World) (n₀ : Nat) (A : Option Addr) (l : List Bx) : Prop :=
  ∀ i, i < l.length → ∃ b off A1 c1 A2 c2, A = some ⟨b, off, none⟩ ∧ 0 ≤ b ∧ b < w.heap.size ∧ BoxAt w b (off + i * 11) (kidAt l i) A1 c1 A2 c2 ∧ Kids w 0 n₀ A1 (kidAt l i).kids ∧ Ints w 0 n₀ A2 (kidAt l i).src ∧ lens (kidAt l i)
theorem Kids.rowIn {w : World} {n₀ : Nat} {A : Option Addr} {l : List Bx} (h : Kids w 0 n₀ A l) (hn : n₀ ≤ w.heap.size) : RowIn w n₀ A l := fun i hi => by
  obtain ⟨b, off, A1, c1, A2, c2, h1, h2, h3, h4⟩ := h.at hi
  exact ⟨b, off, A1, c1, A2, c2, h1, h2, Nat.lt_of_lt_of_le h3 hn, h4⟩
set_option maxRecDepth 100000 in
set_option maxHeartbeats 2000000 in
theorem rplace_any (n₀ : Nat) (A : Option Addr) (l : List Bx) (c : Nat) (B : Option Addr) (g : List Int) (m d : Nat) (Wd : Int) (w : World) (hc : cntL l ≤ 1000) (hav : allV l) (hgl : g.length = m) (hlm : l.length ≤ m) (hml : m ≤ lenMax) (hn : n₀ ≤ w.heap.size) (hK : RowIn w n₀ A l) (hI : Ints w 0 w.heap.size B g) :
    Calls Try.prog 37 #[.slice A l.length c, .slice B m d, .int .i64 Wd] w (PPost n₀ (putR l (plX l (lAt g)) Wd) (putE l (plX l (lAt g)) Wd) w) := by
  obtain ⟨i1, hi1, hy0, hy1, hy2⟩ := info_parts infoBox
  have HCN := Lib.hid hc
  have hl : l.length ≤ 1000 := by have := cnt_len l; omega
  have hml' : m ≤ 9223372036854775807 := hml
  have HK := Lib.hid (And.intro hK (And.intro hI hn))
  have HAV := Lib.hid hav
  have HGL := Lib.hid hgl
  clear hc hK hI hav hgl hml
  obtain ⟨d0, d1, hsz, hb⟩ := two_boxes w zeroBox (bxA (listB Wd 0 0 []) none 0 none 0) 28 28
  go_enter Try.func37, Try.ntmps37
  go_wp2_with fail
  have HR0 : Hid (PS n₀ w l (plX l (lAt g)) Wd 0 none 0 [] ((w.alloc (.cells zeroBox 28)).alloc (.cells (bxA (listB Wd 0 0 []) none 0 none 0) 28))) := ⟨rfl, fun q hq => (by cases hq), d1, ⟨rfl, .inl ⟨rfl, rfl⟩⟩, d0, hb⟩
  change Code.wp _ _ _ _ ((w.alloc (.cells zeroBox 28)).alloc (.cells (bxA (listB Wd 0 0 []) none 0 none 0) 28))
  generalize (w.alloc (.cells zeroBox 28)).alloc (.cells (bxA (listB Wd 0 0 []) none 0 none 0) 28) = W0 at HR0 ⊢
  clear d0 d1 hsz hb
  go_loopw [9, 10] (fun v q wx => ∃ (i : Nat) (A' : Option Addr) (cx : Nat) (Q : List Q5), i ≤ l.length ∧ q = .int .i64 (i : Int) ∧ v = .int .i64 (endX l (lAt g) i) ∧ PS n₀ w l (plX l (lAt g)) Wd i A' cx Q wx) (fun _ q _ => l.length - (intOf q).toNat)
  case atStart => exact ⟨0, none, 0, [], Nat.zero_le _, rfl, rfl, HR0.out⟩
  case round =>
    obtain ⟨i, A', cx, Q, hi, rfl, rfl, hrs⟩ := hrel
    rename World => wx
    have HR := Lib.hid hrs
    clear hrs
    by_cases hlt : i < l.length
    · obtain ⟨kb, ko, A1, c1, A2, c2, rfl, _, hkb, hat, hk1, hi1', hl1⟩ := HK.out.1 i hlt
      obtain ⟨gb, go, rfl, _, hgb, hgc⟩ := HK.out.2.1 (by have := HGL.out; omega)
      have HC : Hid (∀ j, j < 11 → wx.cell? ⟨kb, ko + i * 11 + j, none⟩ = (bxA (kidAt l i) A1 c1 A2 c2)[j]?) := fun j hj => (HR.out.bel.cell (p := ⟨kb, ko + i * 11 + j, none⟩) (by have := HK.out.2.2; show kb < _; omega)).trans (hat j hj)
      obtain ⟨e0, he0⟩ : ∃ e0, endX l (lAt g) i = e0 := ⟨_, rfl⟩
      obtain ⟨px, hpx⟩ : ∃ px, plX l (lAt g) i = px := ⟨_, rfl⟩
      obtain ⟨e1, he1⟩ : ∃ e1, endX l (lAt g) (i + 1) = e1 := ⟨_, rfl⟩
      obtain ⟨sp, hsp⟩ : ∃ sp, lAt g i = sp := ⟨_, rfl⟩
      obtain ⟨ww, hww⟩ : ∃ ww, (kidAt l i).w = ww := ⟨_, rfl⟩
      obtain ⟨hh, hhh⟩ : ∃ hh, (kidAt l i).h = hh := ⟨_, rfl⟩
      obtain ⟨dd, hdd⟩ : ∃ dd, (kidAt l i).d = dd := ⟨_, rfl⟩
      obtain ⟨yy, hyy⟩ : ∃ yy, (kidAt l i).y = yy := ⟨_, rfl⟩
      obtain ⟨mh, hmh⟩ : ∃ mh, maxH l i = mh := ⟨_, rfl⟩
      obtain ⟨md, hmd⟩ : ∃ md, maxD l i = md := ⟨_, rfl⟩
      obtain ⟨mh', hmh'⟩ : ∃ mh', maxH l (i + 1) = mh' := ⟨_, rfl⟩
      obtain ⟨md', hmd'⟩ : ∃ md', maxD l (i + 1) = md' := ⟨_, rfl⟩
      have s1 : IntKind.i64.wrap (e0 + sp) = px := by rw [← hpx, plX, he0, hsp]
      have s2 : IntKind.i64.wrap (px + ww) = e1 := by rw [← he1, endX_s, hpx, hww]
      have hnum := HAV.out.num hlt
      rw [hhh, hdd, hyy] at hnum
      unfold rngL at hnum
      have s3 : IntKind.i64.wrap (yy + hh) = yy + hh := IntWalk.i64_in _ (by omega)
      have s4 : IntKind.i64.wrap (dd - yy) = dd - yy := IntWalk.i64_in _ (by omega)
      have m1 : (if mh < yy + hh then yy + hh else mh) = mh' := by rw [← hmh', maxH, hmh, hyy, hhh]; exact (max_if _ _).symm
      have m2 : (if md < dd - yy then dd - yy else md) = md' := by rw [← hmd', maxD, hmd, hyy, hdd]; exact (max_if _ _).symm
      -- the kid's own copy
      obtain ⟨p, hp⟩ : ∃ p, wx.heap.size = p := ⟨_, rfl⟩
      obtain ⟨s, hs⟩ : ∃ s, w.heap.size + 1 = s := ⟨_, rfl⟩
      have hbx := HR.out.box
      have hsp2 : w.heap.size + 1 < wx.heap.size := (Array.getElem?_eq_some_iff.1 hbx).1
      rw [hs] at hbx hsp2
      rw [hp] at hsp2
      rw [hmh, hmd] at hbx
      obtain ⟨W1, hW1⟩ : ∃ W1, wx.alloc (.cells (bxA (kidAt l i) A1 c1 A2 c2) 28) = W1 := ⟨_, rfl⟩
      have k1 : W1.heap[p]? = some (.cells (bxA (kidAt l i) A1 c1 A2 c2) 28 (0, 0)) := by rw [← hW1, ← hp]; exact blk_new _ _
      have b1 : W1.heap[s]? = some (.cells (olB Wd mh md A' i cx) 28 (0, 0)) := by rw [← hW1]; exact blk_more hbx _
      have HO1 : Hid (∀ k, k < p → W1.heap[k]? = wx.heap[k]?) := fun k hk => by rw [← hW1]; exact Below.heap_alloc _ _ _ (by omega)
      have HBW1 : Hid (Below w.heap.size w W1) := by rw [← hW1]; exact HR.out.bel.alloc HR.out.bel.size _
      have y1 : W1.cell? ⟨gb, go + i, none⟩ = some (.int .i64 sp) := by rw [← hsp]; exact (HBW1.out.cell (p := ⟨gb, go + i, none⟩) hgb).trans (hgc i (by have := HGL.out; omega))
      have e6 : W1.cell? ⟨p, 6, none⟩ = some (.int .i64 (kidAt l i).x) := blk_cell k1 6 _ rfl
      have z6 := blk_free k1 6
      obtain ⟨W2, hW2⟩ : ∃ W2, W1.setCell ⟨p, 6, none⟩ (.int .i64 px) = W2 := ⟨_, rfl⟩
      have k2 : W2.heap[p]? = some (.cells (bxA ((kidAt l i).atX px) A1 c1 A2 c2) 28 (0, 0)) := by rw [← hW2]; exact blk_set k1 6 (.int .i64 px)
      have b2 : W2.heap[s]? = some (.cells (olB Wd mh md A' i cx) 28 (0, 0)) := by rw [← hW2]; exact blk_far b1 (p := ⟨p, 6, none⟩) (by show s ≠ p; omega) _
      have r3 : W2.cell? ⟨p, 3, none⟩ = some (.int .i64 ww) := by rw [← hww]; exact blk_cell k2 3 _ rfl
      have r4 : W2.cell? ⟨p, 4, none⟩ = some (.int .i64 hh) := by rw [← hhh]; exact blk_cell k2 4 _ rfl
      have r7 : W2.cell? ⟨p, 7, none⟩ = some (.int .i64 yy) := by rw [← hyy]; exact blk_cell k2 7 _ rfl
      have q4 : W2.cell? ⟨s, 4, none⟩ = some (.int .i64 mh) := blk_cell b2 4 _ rfl
      have z4 := blk_free b2 4
      obtain ⟨W3, hW3⟩ : ∃ W3, W2.setCell ⟨s, 4, none⟩ (.int .i64 mh') = W3 := ⟨_, rfl⟩
      have k3 : W3.heap[p]? = some (.cells (bxA ((kidAt l i).atX px) A1 c1 A2 c2) 28 (0, 0)) := by rw [← hW3]; exact blk_far k2 (p := ⟨s, 4, none⟩) (by show p ≠ s; omega) _
      have b3 : W3.heap[s]? = some (.cells (olB Wd mh' md A' i cx) 28 (0, 0)) := by rw [← hW3]; exact blk_set b2 4 (.int .i64 mh')
      have t5 : W3.cell? ⟨p, 5, none⟩ = some (.int .i64 dd) := by rw [← hdd]; exact blk_cell k3 5 _ rfl
      have t7 : W3.cell? ⟨p, 7, none⟩ = some (.int .i64 yy) := by rw [← hyy]; exact blk_cell k3 7 _ rfl
      have q5 : W3.cell? ⟨s, 5, none⟩ = some (.int .i64 md) := blk_cell b3 5 _ rfl
      have z5 := blk_free b3 5
      obtain ⟨W4, hW4⟩ : ∃ W4, W3.setCell ⟨s, 5, none⟩ (.int .i64 md') = W4 := ⟨_, rfl⟩
      have k4 : W4.heap[p]? = some (.cells (bxA ((kidAt l i).atX px) A1 c1 A2 c2) 28 (0, 0)) := by rw [← hW4]; exact blk_far k3 (p := ⟨s, 5, none⟩) (by show p ≠ s; omega) _
      have b4 : W4.heap[s]? = some (.cells (olB Wd mh' md' A' i cx) 28 (0, 0)) := by rw [← hW4]; exact blk_set b3 5 (.int .i64 md')
      have e8 : W4.cell? ⟨s, 8, none⟩ = some (.slice A' i cx) := blk_cell b4 8 _ rfl
      have HC4 : Hid (∀ j, j < 11 → W4.cell? ⟨p, 0 + j, none⟩ = (bxA ((kidAt l i).atX px) A1 c1 A2 c2)[j]?) := fun j _ => by rw [Nat.zero_add]; exact cell_of_row _ _ _ _ _ _ k4
      have HF4 : Hid (∀ k, k ≠ s → k ≠ p → W4.heap[k]? = W1.heap[k]?) := fun k h1 h2 => by
        rw [← hW4, ← hW3, ← hW2]
        exact (Below.heap_setCell _ ⟨s, 5, none⟩ _ k h1).trans ((Below.heap_setCell _ ⟨s, 4, none⟩ _ k h1).trans (Below.heap_setCell _ ⟨p, 6, none⟩ _ k h2))
      have HBW4 : Hid (Below w.heap.size w W4) := by
        rw [← hW4, ← hW3, ← hW2]
        exact ((HBW1.out.setCell (p := ⟨p, 6, none⟩) (by show _ ≤ p; omega) _).setCell (p := ⟨s, 4, none⟩) (by show _ ≤ s; omega) _).setCell (p := ⟨s, 5, none⟩) (by show _ ≤ s; omega) _
      have HOWN : Hid (W4.ownsRow (s + 1) 28 11 (.slice A' i cx) i (rowC Q)) := own_same (by rw [← hs]; exact HR.out.own) fun k h1 h2 => (HF4.out k (by omega) (by omega)).trans (HO1.out k (by omega))
      have HNM := Lib.hid (And.intro hpx (And.intro hmh' (And.intro hmd' he1)))
      have HB4 := Lib.hid b4
      have HSS := Lib.hid hs
      have HLI : Hid (Lies w 0 n₀ ⟨(kidAt l i).atX px, A1, c1, A2, c2⟩) := ⟨hk1, hi1', hl1⟩
      have HSZ : Hid (s + 1 ≤ W4.heap.size ∧ p ≠ s ∧ s < p ∧ p < W4.heap.size) := ⟨(Array.getElem?_eq_some_iff.1 b4).1, by omega, by omega, (Array.getElem?_eq_some_iff.1 k4).1⟩
      have HZ4 : Hid (W4.heap[w.heap.size]? = some (.cells zeroBox 28 (0, 0))) := (HF4.out _ (by omega) (by omega)).trans ((HO1.out _ (by omega)).trans HR.out.zero)
      have HA4 : Hid ((W4.alloc (.cells (bxA ((kidAt l i).atX px) A1 c1 A2 c2) 28)).heap[W4.heap.size]? = some (.cells (bxA ((kidAt l i).atX px) A1 c1 A2 c2) 28 (0, 0))) := blk_new _ _
      rw [he0, hs]
      clear hat hk1 hi1' hl1 hgc he0 hpx he1 hsp hww hhh hdd hyy hmh hmd hmh' hmd' hnum hbx k1 k2 k3 k4 b1 b2 b3 b4 hs
      go_wp2_with (first
        | ((with_reducible refine at_load 28 ?_); go_loud (first | refine wpList_load_all i1 11 hi1 hy1 _ Try.underlying28 rfl rfl HC.out ?_ | refine wpList_load_all i1 11 hi1 hy1 _ Try.underlying28 rfl rfl HC4.out ?_))
        | (at_builtin; refine wpList_append_el rfl _ _ 22 28 rfl i1 _ 11 128 Try.underlying22 hi1 hy0 hy1 hy2 rfl (by omega) rfl (own_below HOWN.out (one_below _ _)) rfl HA4.out rfl (bxA_one ((kidAt l i).atX px) A1 c1 A2 c2) (by unfold maxLen; omega) (by omega) (by have := HSZ.out.1; rw [World.size_alloc]; omega) ?_; intro A6 c6 w6 hown6 hb6; have HO6 := Lib.hid hown6; have HB6 := Lib.hid hb6; have d6 := (hb6.block s (by have := HSZ.out.1; omega)).trans (blk_more HB4.out _); have y6 : w6.cell? ⟨s, 8, none⟩ = some (.slice A' i cx) := blk_cell d6 8 _ rfl; have z8 := blk_free d6 8; clear hown6 hb6 d6))
      have d6 : w6.heap[s]? = some (.cells (olB Wd mh' md' A' i cx) 28 (0, 0)) := (HB6.out.block s (by omega)).trans (blk_more HB4.out _)
      have hbel : Below w.heap.size w w6 := by
        have h1 := HBW4.out.alloc (HBW4.out.size) (.cells (bxA ((kidAt l i).atX px) A1 c1 A2 c2) 28)
        exact h1.trans (HB6.out.mono (by have := HSS.out; omega))
      have hmap : (Q ++ [Q5.mk ((kidAt l i).atX px) A1 c1 A2 c2]).map Q5.t = (movedX l (plX l (lAt g))).take (i + 1) := by
        rw [List.map_append, HR.out.map, take_kid _ (by rw [movedX_len]; exact hlt), movedX_at hlt, HNM.out.1]
        rfl
      have hzero : w6.heap[w.heap.size]? = some (.cells zeroBox 28 (0, 0)) := (HB6.out.block _ (by have := HSS.out; omega)).trans (blk_more HZ4.out _)
      have hown : (w6.setCell ⟨s, 8, none⟩ (.slice A6 (i + 1) c6)).ownsRow (s + 1) 28 11 (.slice A6 (i + 1) c6) (i + 1) (rowC (Q ++ [⟨(kidAt l i).atX px, A1, c1, A2, c2⟩])) := by
        rw [rowC_append, rowC_one]
        exact own_same HO6.out fun k hk _ => Below.heap_setCell _ ⟨s, 8, none⟩ _ k (by show k ≠ s; omega)
      have hps : PS n₀ w l (plX l (lAt g)) Wd (i + 1) A6 c6 (Q ++ [⟨(kidAt l i).atX px, A1, c1, A2, c2⟩]) (w6.setCell ⟨s, 8, none⟩ (.slice A6 (i + 1) c6)) := by
        have hss := HSS.out
        refine ⟨hmap, fun q hq => ?_, ?_, ?_, ?_, hbel.setCell (p := ⟨s, 8, none⟩) (by show _ ≤ s; omega) _⟩
        · rcases List.mem_append.1 hq with h1 | h1
          · exact HR.out.lies q h1
          · obtain rfl : q = _ := by simpa using h1
            exact HLI.out
        · rw [hss, HNM.out.2.1, HNM.out.2.2.1]
          exact blk_set d6 8 _
        · rw [hss]; exact hown
        · exact blk_far hzero (p := ⟨s, 8, none⟩) (by show w.heap.size ≠ s; omega) _
      have hps2 : Value.int .i64 e1 = .int .i64 (endX l (lAt g) (i + 1)) := by rw [HNM.out.2.2.2]
      go_roundw
      case rel => exact ⟨i + 1, A6, c6, _, by omega, by go_num, hps2, hps⟩
      case measure => simp [intOf]; omega
    · obtain rfl : i = l.length := by omega
      have HTB : Hid (∃ tb : Bx, tb = rowB l (plX l (lAt g)) Wd ∧ tb.kids = movedX l (plX l (lAt g)) ∧ tb.src = [] ∧ lens tb ∧ cntB tb ≤ 1001) :=
        ⟨_, rfl, rfl, rfl, rowB_lens hl HCN.out⟩
      obtain ⟨tb, htb⟩ := HTB.out
      clear HTB
      have HTB := Lib.hid htb
      have hbx : wx.heap[w.heap.size + 1]? = some (.cells (bxA tb A' cx none 0) 28 (0, 0)) := by
        rw [HR.out.box, htb.1, olB_row]
      have HKX : Hid (Kids wx 0 wx.heap.size A' tb.kids) := by rw [htb.2.1]; exact HR.out.kids HK.out.2.2 (Nat.le_refl _) fun _ _ _ => rfl
      have HC : Hid (∀ j, j < 11 → wx.cell? ⟨w.heap.size + 1, 0 + j, none⟩ = (bxA tb A' cx none 0)[j]?) := fun j _ => by rw [Nat.zero_add]; exact cell_of_row _ _ _ _ _ _ hbx
      have HLT : Hid (w.heap.size + 1 < wx.heap.size) := (Array.getElem?_eq_some_iff.1 hbx).1
      clear htb hbx
      obtain ⟨r, hr⟩ := bool_of (validB tb)
      have HVD := Lib.hid hr
      clear hr
      go_wp2_with ((with_reducible refine at_load 28 ?_); go_loud (refine wpList_load_all i1 11 hi1 hy1 _ Try.underlying28 rfl rfl HC.out ?_))
      refine (rValid_any tb A' cx none 0 _ HTB.out.2.2.2.1 (by have := HTB.out.2.2.2.2; omega) HVD.out HKX.out (by rw [HTB.out.2.2.1]; exact fun h => absurd h (by simp))).mono ?_
      rintro e w2 ⟨rfl, hb2⟩
      have HB2 := Lib.hid (below_next HR.out.bel hb2)
      have D6 : Hid (w2.heap[w.heap.size]? = some (.cells zeroBox 28 (0, 0))) := (hb2.block _ (by have := HLT.out; omega)).trans HR.out.zero
      have HC2 : Hid (∀ j, j < 11 → w2.cell? ⟨w.heap.size + 1, 0 + j, none⟩ = (bxA tb A' cx none 0)[j]?) := fun j hj => (hb2.cell (p := ⟨w.heap.size + 1, 0 + j, none⟩) HLT.out).trans (HC.out j hj)
      have HO2 := Lib.hid hb2
      clear hb2
      cases r with
      | false =>
        go_wp2_with ((with_reducible refine at_store 28 ?_); go_loud (refine wpList_store_all i1 11 hi1 hy1 rfl rfl rfl D6.out (by decide) (bxA_one zeroBx none 0 none 0) ?_); rw [row_all _ _ rfl rfl])
        refine bodyPost_ret (results_cell_tmp rfl _ i1 11 hi1 hy1 _ Try.underlying28 rfl rfl (fun j _ => by rw [Nat.zero_add]; exact cell_setRow_same _ _ _ _ _ _ _ D6.out)) rfl ?_
        refine PPost.zero (put_no fun h => ?_) (below_setRow HB2.out (Nat.le_refl _) _)
        have h2 := HVD.out.2 (by rw [HTB.out.1]; exact h)
        simp at h2
      | true =>
        have HVT : Hid (validB tb) := HVD.out.1 rfl
        clear HVD
        go_wp2_with (first
          | ((with_reducible refine at_load 28 ?_); go_loud (refine wpList_load_all i1 11 hi1 hy1 _ Try.underlying28 rfl rfl HC2.out ?_))
          | ((with_reducible refine at_store 28 ?_); go_loud (refine wpList_store_all i1 11 hi1 hy1 rfl rfl rfl D6.out (by decide) (bxA_one tb A' cx none 0) ?_); rw [row_all _ _ rfl rfl]))
        refine bodyPost_ret (results_cell_tmp rfl _ i1 11 hi1 hy1 _ Try.underlying28 rfl rfl (fun j _ => by rw [Nat.zero_add]; exact cell_setRow_same _ _ _ _ _ _ _ D6.out)) rfl ?_
        obtain ⟨h1, h2⟩ := put_yes (l := l) (P := plX l (lAt g)) (W := Wd) (by rw [← HTB.out.1]; exact HVT.out)
        rw [h1, h2, ← HTB.out.1]
        refine ⟨⟨A', cx, rfl, fun W' hs hW => ?_⟩, below_setRow HB2.out (Nat.le_refl _) _⟩
        have hse : (w2.setRow w.heap.size (bxA tb A' cx none 0)).heap.size = w2.heap.size := by simp
        rw [hse] at hs hW
        have h2s := HO2.out.size
        have hn := HK.out.2.2
        rw [HTB.out.2.1]
        refine HR.out.kids HK.out.2.2 (by omega) fun k h1 h2 => ?_
        have h3 : k < n₀ ∨ w.heap.size ≤ k := by omega
        exact (hW k h3 (by omega)).trans ((setRow_other _ _ _ _ (by omega)).trans (HO2.out.block k h2))
end Go.Proofs.Ytjckbdbjcgjcaaa
