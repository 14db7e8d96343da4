/- The walk of GlueShift. -/
import Derived.Test.YtnhplbhjbpdcaaaLawEqual
import Derived.Test.YtnhplbhjbpdcaaaAppCopy
namespace Go.Proofs.Ytnhplbhjbpdcaaa
open Go.RowKit
def glsCell (l : List Gl) (j : Nat) : Value := .int .i64 (if j % 4 = 0 then wdAt l (j / 4) else if j % 4 = 1 then stAt l (j / 4) else if j % 4 = 2 then shAt l (j / 4) else odAt l (j / 4))
def glsV (l : List Gl) : List Value := (List.range (l.length * 4)).map (glsCell l)
theorem glsV_len (l : List Gl) : (glsV l).length = l.length * 4 := by simp [glsV]
theorem glsV_at {l : List Gl} {j : Nat} {u : Value} (h : (glsV l)[j]? = some u) : j < l.length * 4 ∧ u = glsCell l j := by
  unfold glsV at h
  rw [List.getElem?_map] at h
  obtain ⟨k, hk, rfl⟩ := Option.map_eq_some_iff.1 h
  have hj := (List.getElem?_eq_some_iff.1 hk)
  obtain ⟨h1, h2⟩ := hj
  simp at h1 h2
  subst h2
  exact ⟨h1, rfl⟩
theorem glsV_in {l : List Gl} {j : Nat} (h : j < l.length * 4) : (glsV l)[j]? = some (glsCell l j) := by
  unfold glsV
  simp [h]
theorem glsCell0 (l : List Gl) (k : Nat) : glsCell l (k * 4) = .int .i64 (wdAt l k) := by unfold glsCell; rw [if_pos (by omega), show k * 4 / 4 = k by omega]
theorem glsCell1 (l : List Gl) (k : Nat) : glsCell l (k * 4 + 1) = .int .i64 (stAt l k) := by unfold glsCell; rw [if_neg (by omega), if_pos (by omega), show (k * 4 + 1) / 4 = k by omega]
theorem glsCell2 (l : List Gl) (k : Nat) : glsCell l (k * 4 + 2) = .int .i64 (shAt l k) := by unfold glsCell; rw [if_neg (by omega), if_neg (by omega), if_pos (by omega), show (k * 4 + 2) / 4 = k by omega]
theorem glsCell3 (l : List Gl) (k : Nat) : glsCell l (k * 4 + 3) = .int .i64 (odAt l k) := by unfold glsCell; rw [if_neg (by omega), if_neg (by omega), if_neg (by omega), show (k * 4 + 3) / 4 = k by omega]
theorem gls_src {w : World} {B : Nat} {A : Option Addr} {l : List Gl} (h : Gls w B A l) : 0 < l.length → ∃ b off, A = some ⟨b, off, none⟩ ∧ ∀ j u, (glsV l)[j]? = some u → w.cell? ⟨b, off + j, none⟩ = some u := fun h0 => by
  obtain ⟨b, off, rfl, _, hc⟩ := h h0
  refine ⟨b, off, rfl, fun j u hu => ?_⟩
  obtain ⟨hj, rfl⟩ := glsV_at hu
  obtain ⟨c0, c1, c2, c3⟩ := hc (j / 4) (by omega)
  unfold glsCell
  rcases (by omega : j % 4 = 0 ∨ j % 4 = 1 ∨ j % 4 = 2 ∨ j % 4 = 3) with e | e | e | e
  · rw [if_pos e]; rw [show off + j = off + j / 4 * 4 by omega]; exact c0
  · rw [if_neg (by omega), if_pos e]; rw [show off + j = off + j / 4 * 4 + 1 by omega]; exact c1
  · rw [if_neg (by omega), if_neg (by omega), if_pos e]; rw [show off + j = off + j / 4 * 4 + 2 by omega]; exact c2
  · rw [if_neg (by omega), if_neg (by omega), if_neg (by omega)]; rw [show off + j = off + j / 4 * 4 + 3 by omega]; exact c3
theorem glsV_one (l : List Gl) : ∀ u ∈ glsV l, u.oneCell' = true := fun u hu => by
  unfold glsV at hu
  obtain ⟨j, _, rfl⟩ := List.mem_map.1 hu
  rfl
/-- The cells hold the glue. -/
def GlsC (cur : Array Value) (l : List Gl) : Prop := ∀ k, k < l.length → cur[k * 4]? = some (.int .i64 (wdAt l k)) ∧ cur[k * 4 + 1]? = some (.int .i64 (stAt l k)) ∧ cur[k * 4 + 2]? = some (.int .i64 (shAt l k)) ∧ cur[k * 4 + 3]? = some (.int .i64 (odAt l k))
theorem GlsC.gls {W : World} {b : Nat} {e : TypeId} {cur : Array Value} {l : List Gl} (hb : W.heap[b]? = some (.cells cur e (0, 0))) (h : GlsC cur l) : Gls W W.heap.size (some ⟨b, 0, none⟩) l := fun _ =>
  ⟨b, 0, rfl, (Array.getElem?_eq_some_iff.1 hb).1, fun k hk => by
    rw [Nat.zero_add]
    exact ⟨blk_cell hb _ _ (h k hk).1, blk_cell hb _ _ (h k hk).2.1, blk_cell hb _ _ (h k hk).2.2.1, blk_cell hb _ _ (h k hk).2.2.2⟩⟩
theorem GlsC.of {cur : Array Value} {l : List Gl} (hc : ∀ (j : Nat) (u : Value), (glsV l)[j]? = some u → cur[j]? = some u) : GlsC cur l := fun k hk => by
  refine ⟨?_, ?_, ?_, ?_⟩
  · rw [← glsCell0]; exact hc _ _ (glsV_in (by omega))
  · rw [← glsCell1]; exact hc _ _ (glsV_in (by omega))
  · rw [← glsCell2]; exact hc _ _ (glsV_in (by omega))
  · rw [← glsCell3]; exact hc _ _ (glsV_in (by omega))
/-- The list with b more at element j. -/
def shiftL (l : List Gl) (j : Nat) (b : Int) : List Gl := l.set j ⟨wdAt l j + b, stAt l j, shAt l j, odAt l j⟩
theorem shiftL_len (l : List Gl) (j : Nat) (b : Int) : (shiftL l j b).length = l.length := by simp [shiftL]
theorem shiftL_at (l : List Gl) (j : Nat) (b : Int) (hj : j < l.length) (k : Nat) (hk : k < l.length) : wdAt (shiftL l j b) k = wdAt l k + (if k = j then b else 0) ∧ stAt (shiftL l j b) k = stAt l k ∧ shAt (shiftL l j b) k = shAt l k ∧ odAt (shiftL l j b) k = odAt l k := by
  have e : (shiftL l j b).getD k glZ = if k = j then ⟨wdAt l j + b, stAt l j, shAt l j, odAt l j⟩ else l.getD k glZ := by
    unfold shiftL
    by_cases e : k = j
    · subst e; simp [List.getD, hk]
    · rw [if_neg e]; simp [List.getD, Ne.symm e]
  unfold wdAt stAt shAt odAt
  rw [e]
  by_cases e : k = j
  · subst e; rw [if_pos rfl, if_pos rfl]; exact ⟨rfl, rfl, rfl, rfl⟩
  · rw [if_neg e, if_neg e, Int.add_zero]; exact ⟨rfl, rfl, rfl, rfl⟩
theorem shiftL_P (l : List Gl) (j : Nat) (b : Int) (hj : j < l.length) : ShiftP l (shiftL l j b) j b := ⟨shiftL_len l j b, fun k hk => shiftL_at l j b hj k hk⟩
theorem GlsC.shift {cur : Array Value} {l : List Gl} (h : GlsC cur l) {j : Nat} (hj : j < l.length) {b y : Int} (hy : wdAt l j + b = y) : GlsC (cur.setIfInBounds (j * 4) (.int .i64 y)) (shiftL l j b) := fun k hk => by
  rw [shiftL_len] at hk
  obtain ⟨e0, e1, e2, e3⟩ := shiftL_at l j b hj k hk
  obtain ⟨h0, h1, h2, h3⟩ := h k hk
  have b0 := (Array.getElem?_eq_some_iff.1 h0).1
  rw [e0, e1, e2, e3]
  simp only [Array.getElem?_setIfInBounds]
  refine ⟨?_, ?_, ?_, ?_⟩
  · by_cases e : k = j
    · subst e
      rw [if_pos rfl, if_pos b0, if_pos rfl, hy]
    · rw [if_neg (by omega), if_neg e, Int.add_zero]; exact h0
  · rw [if_neg (by omega)]; exact h1
  · rw [if_neg (by omega)]; exact h2
  · rw [if_neg (by omega)]; exact h3
set_option maxRecDepth 100000 in
set_option maxHeartbeats 4000000 in
theorem glueShift_walk (A : Option Addr) (c : Nat) (l : List Gl) (wd x0 x1 : Int) (w : World) (hm : l.length ≤ lenMax) (hP : Gls w w.heap.size A l) (h00 : -32768 ≤ x0) (h01 : x0 ≤ 32767) (h10 : -32768 ≤ x1) (h11 : x1 ≤ 32767) :
    Calls Try.prog 10 #[.slice A l.length c, .int .i64 wd, .agg #[.int .i16 x0, .int .i16 x1]] w fun e w' => e = .returned (.bool true) ∧ Below w.heap.size w w' := by
  obtain ⟨i0, hi0, hz0, hz1, hz2⟩ := info_parts infoG
  have HM := Lib.hid hm
  have HP := Lib.hid hP
  clear hm hP
  have hB : Hid (Below w.heap.size w (w.alloc (.cells #[.int .i16 x0, .int .i16 x1] 41))) := by show Below _ _ _; exact one_below _ _
  by_cases hok : VG l ∧ rngW wd
  · have HOK := Lib.hid hok
    by_cases h0 : l.length = 0
    · have HL0 := Lib.hid h0
      clear h0 hok
      go_enter Try.func10, Try.ntmps10
      go_wp2_with fail
      refine (gawake_any _).mono ?_
      rintro e w1 ⟨rfl, hb1⟩
      have HB1 : Hid (Below w.heap.size w w1) := below_next hB.out hb1
      clear hb1
      go_wp2_with fail
      refine (right_any (r := true) _ _ l _ _ (yes_iff HOK.out) HM.out (HP.out.next HB1.out)).mono ?_
      rintro e w2 ⟨rfl, hb2⟩
      have hl0 : (l.length : Int) = 0 := by have := HL0.out; omega
      go_wp2
      go_ret
      exact ⟨rfl, below_next HB1.out hb2⟩
    · have hl1 : decide ((l.length : Int) = 0) = false := decide_eq_false (by omega)
      have hl2 : ((l.length : Int) == 0) = false := by rw [beq_eq_false_iff_ne]; omega
      have hl200 := hok.1.1
      have hwd0 := hok.2.1
      have hwd1 := hok.2.2
      have hj0 : 0 ≤ (x0 + 32768) % (l.length : Int) := Int.emod_nonneg _ (by omega)
      have hjl : (x0 + 32768) % (l.length : Int) < (l.length : Int) := Int.emod_lt_of_pos _ (by omega)
      have hjt : (x0 + 32768).tmod (l.length : Int) = (x0 + 32768) % (l.length : Int) := Int.tmod_eq_emod_of_nonneg (by omega)
      obtain ⟨z, hz⟩ : ∃ z, (x0 + 32768) % (l.length : Int) = z := ⟨_, rfl⟩
      rw [hz] at hj0 hjl hjt
      obtain ⟨j, rfl⟩ : ∃ j : Nat, z = (j : Int) := ⟨z.toNat, by omega⟩
      have hje : (x0 + 32768) % (l.length : Int) = (j : Int) := hz
      have hjm : (x0 + 32768).tmod (l.length : Int) = (j : Int) := hjt
      have hjn : j < l.length := by omega
      have hlne : ¬ ((l.length : Int) = 0) := by omega
      have sA : IntKind.i64.wrap (x0 + 32768) = x0 + 32768 := IntWalk.i64_in _ (by omega)
      have sB : IntKind.i64.wrap (wd + x1) = wd + x1 := IntWalk.i64_in _ (by omega)
      clear hok hj0 hjl hz hjt
      go_enter Try.func10, Try.ntmps10
      go_wp2_with fail
      refine (gawake_any _).mono ?_
      rintro e w1 ⟨rfl, hb1⟩
      have HK1 := Lib.hid ((hb1.block w.heap.size (by simp)).trans (blk_new w (.cells #[.int .i16 x0, .int .i16 x1] 41)))
      have hlt1 : w.heap.size < w1.heap.size := by have := hb1.size; simp at this; omega
      have HB1 : Hid (Below w.heap.size w w1) := below_next hB.out hb1
      clear hb1
      go_wp2_with fail
      refine (right_any (r := true) _ _ l _ _ (yes_iff HOK.out) HM.out (HP.out.next HB1.out)).mono ?_
      rintro e w2 ⟨rfl, hb2⟩
      have HK2 := Lib.hid ((hb2.block _ hlt1).trans HK1.out)
      have hlt2 : w.heap.size < w2.heap.size := by have := hb2.size; omega
      have HB2 : Hid (Below w.heap.size w w2) := below_next HB1.out hb2
      have y0 : w2.cell? ⟨w.heap.size, 0, none⟩ = some (.int .i16 x0) := blk_cell HK2.out 0 _ rfl
      have y1 : w2.cell? ⟨w.heap.size, 1, none⟩ = some (.int .i16 x1) := blk_cell HK2.out 1 _ rfl
      clear hb2 HK1 hlt1
      go_wp2_with (at_builtin; refine wpList_append_copy rfl _ _ 22 36 rfl i0 _ 4 32 Try.underlying22 hi0 hz0 hz1 hz2 rfl (by decide) rfl rfl (heap_alloc_new _ _) (glsV l) (glsV_len l) (gls_src (HP.out.next (HB2.out.alloc HB2.out.size _))) (glsV_one l) (by unfold maxLen; omega) (by omega) ?_; intro A3 c3 w3 hcp hb3; have HCP := Lib.hid (hcp (by omega)); have HB3 := Lib.hid hb3; clear hcp hb3)
      obtain ⟨b, cur, rfl, hgb, hbk, hcs⟩ := HCP.out
      have hgc := GlsC.of hcs
      obtain ⟨a, ha⟩ : ∃ a, wdAt l j = a := ⟨_, rfl⟩
      have hab : -1048576 ≤ a ∧ a ≤ 1048576 := by rw [← ha]; have := HOK.out.1.2 j hjn; unfold okG at this; omega
      have l0 := blk_cell hbk (j * 4) _ (hgc j hjn).1
      rw [ha] at l0
      have z0 := blk_free hbk (j * 4)
      have hw3s : w.heap.size < w3.heap.size := by have := HB3.out.size; simp at this; omega
      have hbs : w.heap.size ≠ b := by have := hgb; omega
      have hK3 := (HB3.out.block w.heap.size hlt2).trans ((Below.heap_alloc _ _ _ hlt2).trans HK2.out)
      have y1 : w3.cell? ⟨w.heap.size, 1, none⟩ = some (.int .i16 x1) := blk_cell hK3 1 _ rfl
      have HW3 : Hid (Below w.heap.size w w3) := by show Below _ _ _; exact (HB2.out.alloc HB2.out.size _).trans (HB3.out.mono HB2.out.size)
      have s1 : IntKind.i64.wrap (a + x1) = a + x1 := IntWalk.i64_in _ (by omega)
      have HBK := Lib.hid (And.intro hbk (And.intro hgc (And.intro ha (And.intro hK3 hgb))))
      clear hbk hgc ha hcs hK3 hgb HCP y0
      go_region
      have HW4 : Hid (Below w.heap.size w ((w3.setCell ⟨b, j * 4, none⟩ (.int .i64 (a + x1))).drew)) := by
        show Below _ _ _
        have h3 : Below w.heap.size w (w3.setCell ⟨b, j * 4, none⟩ (.int .i64 (a + x1))) := HW3.out.setCell (p := ⟨b, j * 4, none⟩) (by have := HBK.out.2.2.2.2; show w.heap.size ≤ b; omega) _
        exact below_drewN h3 1
      have hblk : ((w3.setCell ⟨b, j * 4, none⟩ (.int .i64 (a + x1))).drew).heap[b]? = some (.cells (cur.setIfInBounds (j * 4) (.int .i64 (a + x1))) 36 (0, 0)) := blk_set (W := w3) HBK.out.1 _ _
      have hk4 : ((w3.setCell ⟨b, j * 4, none⟩ (.int .i64 (a + x1))).drew).heap[w.heap.size]? = some (.cells #[.int .i16 x0, .int .i16 x1] 41 (0, 0)) := blk_far (W := w3) HBK.out.2.2.2.1 (p := ⟨b, j * 4, none⟩) hbs _
      have HL : Hid (Gls ((w3.setCell ⟨b, j * 4, none⟩ (.int .i64 (a + x1))).drew) ((w3.setCell ⟨b, j * 4, none⟩ (.int .i64 (a + x1))).drew).heap.size (some ⟨b, 0, none⟩) (shiftL l j x1)) := by
        show Gls _ _ _ _
        exact GlsC.gls hblk (HBK.out.2.1.shift hjn (by rw [HBK.out.2.2.1]))
      have hs4 : w.heap.size < ((w3.setCell ⟨b, j * 4, none⟩ (.int .i64 (a + x1))).drew).heap.size := (Array.getElem?_eq_some_iff.1 hk4).1
      generalize ((w3.setCell ⟨b, j * 4, none⟩ (.int .i64 (a + x1))).drew) = w4 at HW4 HL hk4 hs4 ⊢
      have y1 : w4.cell? ⟨w.heap.size, 1, none⟩ = some (.int .i16 x1) := blk_cell hk4 1 _ rfl
      have HK4 := Lib.hid hk4
      clear hblk hk4 z0 l0 s1 HBK
      obtain ⟨m, hm⟩ : ∃ m, shiftL l j x1 = m := ⟨_, rfl⟩
      have hmP := shiftL_P l j x1 hjn
      have hml := shiftL_len l j x1
      rw [hm] at HL hmP hml
      have HMP := Lib.hid hmP
      have HMM : Hid (m.length ≤ lenMax) := by show _ ≤ _; unfold lenMax; omega
      clear hm hmP
      have HRM : ∀ r : Bool, (r = true ↔ VG m ∧ rngW (wd + x1)) → Calls Try.prog 25 #[.slice (some ⟨b, 0, none⟩) l.length c3, .int .i64 (wd + x1)] w4 fun e w' => e = .returned (.bool r) ∧ Below w4.heap.size w4 w' := fun r hr => by
        have := right_any (some ⟨b, 0, none⟩) c3 m (wd + x1) w4 hr HMM.out HL.out
        rw [hml] at this
        exact this
      have HRMH := Lib.hid HRM
      clear HRM
      by_cases hok2 : VG m ∧ rngW (wd + x1)
      · have HOK2 := Lib.hid hok2
        clear hok2
        go_wp2_with fail
        refine (HRMH.out true (yes_iff HOK2.out)).mono ?_
        rintro e w5 ⟨rfl, hb5⟩
        have HK5 := Lib.hid ((hb5.block _ hs4).trans HK4.out)
        have hs5 : w.heap.size < w5.heap.size := by have := hb5.size; omega
        have HW5 : Hid (Below w.heap.size w w5) := below_next HW4.out hb5
        have HL5 : Hid (Gls w5 w5.heap.size (some ⟨b, 0, none⟩) m) := HL.out.next hb5
        clear hb5 y1
        obtain ⟨f, hf⟩ : ∃ f, setV l (wd - natV l) = f := ⟨_, rfl⟩
        obtain ⟨r, hr⟩ : ∃ r, restV l (wd - natV l) = r := ⟨_, rfl⟩
        obtain ⟨f', hf'⟩ : ∃ f', setV m (wd + x1 - natV m) = f' := ⟨_, rfl⟩
        obtain ⟨r', hr'⟩ : ∃ r', restV m (wd + x1 - natV m) = r' := ⟨_, rfl⟩
        have hei := e_in HOK.out.1 HOK.out.2
        have hfb : ∀ k, k < l.length → -2148532223 ≤ f k ∧ f k ≤ 2148532223 := fun k hk => by rw [← hf]; exact setV_in HOK.out.1 hei.1 hei.2 hk
        have hnat := shift_nat HMP.out hjn
        have hsame : wd + x1 - natV m = wd - natV l := by omega
        have hsl := shift_law HMP.out HOK.out.1 HOK2.out.1 (wd - natV l)
        rw [← hsame, hf', hr', hsame, hf, hr] at hsl
        obtain ⟨hrr, hsf⟩ := hsl
        obtain rfl := hrr.symm
        have HF := Lib.hid (And.intro hf (And.intro hr (And.intro hf' hr')))
        have HSF := Lib.hid (And.intro hfb hsf)
        have HS2 : ∀ X, Gls X X.heap.size (some ⟨b, 0, none⟩) m → Calls Try.prog 20 #[.slice (some ⟨b, 0, none⟩) l.length c3, .int .i64 (wd + x1)] X fun e w' => (∃ A' c', e = .returned (.tuple #[.slice A' l.length c', .int .i64 r, .int .i64 0]) ∧ Ints w' w'.heap.size A' (mapN f' l.length)) ∧ Below X.heap.size X w' := fun X hX => by
          have := gset_ok (some ⟨b, 0, none⟩) c3 m (wd + x1) X HOK2.out.1 HOK2.out.2 HF.out.2.2.1 HF.out.2.2.2 hml hX
          exact this
        have HS2H := Lib.hid HS2
        clear HS2 hf hr hf' hr' hfb hei hnat hsame hsf
        go_wp2_with fail
        refine (gset_ok _ _ l _ _ HOK.out.1 HOK.out.2 HF.out.1 HF.out.2.1 rfl (HP.out.next HW5.out)).mono ?_
        rintro e w6 ⟨⟨A6, c6, rfl, hI6⟩, hb6⟩
        have HI6 := Lib.hid hI6
        have HK6 := Lib.hid ((hb6.block _ hs5).trans HK5.out)
        have hs6 : w.heap.size < w6.heap.size := by have := hb6.size; omega
        have HW6 : Hid (Below w.heap.size w w6) := below_next HW5.out hb6
        have HL6 : Hid (Gls w6 w6.heap.size (some ⟨b, 0, none⟩) m) := HL5.out.next hb6
        have y1 : w6.cell? ⟨w.heap.size, 1, none⟩ = some (.int .i16 x1) := blk_cell HK6.out 1 _ rfl
        clear hb6 hI6
        go_wp2_with fail
        refine (HS2H.out _ HL6.out).mono ?_
        rintro e w7 ⟨⟨A7, c7, rfl, hI7⟩, hb7⟩
        have HI7 := Lib.hid hI7
        have HJ6 : Hid (Ints w7 w7.heap.size A6 (mapN f l.length)) := HI6.out.next hb7
        have HK7 := Lib.hid ((hb7.block _ hs6).trans HK6.out)
        have hs7 : w.heap.size < w7.heap.size := by have := hb7.size; omega
        have HW7 : Hid (Below w.heap.size w w7) := below_next HW6.out hb7
        clear hb7 hI7 y1
        go_wp2_with fail
        go_loopw [15] (fun q wr => ∃ k : Nat, k ≤ l.length ∧ q = .int .i64 (k : Int) ∧ Below w7.heap.size w7 wr) (fun q _ => l.length - (intOf q).toNat)
        case atStart => exact ⟨0, Nat.zero_le _, rfl, Below.refl _ _⟩
        case round =>
          obtain ⟨k, hk, rfl, hbw⟩ := hrel
          have HBW := Lib.hid hbw
          have y1 : wr.cell? ⟨w.heap.size, 1, none⟩ = some (.int .i16 x1) := blk_cell ((hbw.block _ hs7).trans HK7.out) 1 _ rfl
          clear hbw
          by_cases hlt : k < l.length
          · obtain ⟨b6, o6, rfl, hB6, hc6⟩ := HJ6.out (by rw [mapN_len]; omega)
            have d0 := (HBW.out.cell (p := ⟨b6, o6 + k, none⟩) hB6).trans (hc6 k (by rw [mapN_len]; exact hlt))
            rw [mapN_at f hlt] at d0
            obtain ⟨b7, o7, rfl, hB7, hc7⟩ := HI7.out (by rw [mapN_len]; omega)
            have d1 := (HBW.out.cell (p := ⟨b7, o7 + k, none⟩) hB7).trans (hc7 k (by rw [mapN_len]; exact hlt))
            rw [mapN_at f' hlt] at d1
            have hfk := HSF.out.1 k hlt
            have hfe := HSF.out.2 k hlt
            obtain ⟨y, hy⟩ : ∃ y, f k = y := ⟨_, rfl⟩
            obtain ⟨y', hy'⟩ : ∃ y', f' k = y' := ⟨_, rfl⟩
            rw [hy] at d0 hfk hfe
            rw [hy'] at d1 hfe
            clear hy hy' hc6 hc7
            by_cases hkj : k = j
            · rw [if_pos hkj] at hfe
              subst hfe
              have q1 : decide ((k : Int) = (j : Int)) = true := decide_eq_true (by omega)
              have q2 : ((k : Int) == (j : Int)) = true := by rw [beq_iff_eq]; omega
              have s1 : IntKind.i64.wrap (y + x1) = y + x1 := IntWalk.i64_in _ (by omega)
              clear hkj
              go_wp2_with fail
              go_roundw
              case rel => exact ⟨k + 1, by omega, by go_num, HBW.out⟩
              case measure => simp [intOf]; omega
            · rw [if_neg hkj, Int.add_zero] at hfe
              subst hfe
              have q1 : decide ((k : Int) = (j : Int)) = false := decide_eq_false (by omega)
              have q2 : ((k : Int) == (j : Int)) = false := by rw [beq_eq_false_iff_ne]; omega
              clear hkj
              go_wp2_with fail
              go_roundw
              case rel => exact ⟨k + 1, by omega, by go_num, HBW.out⟩
              case measure => simp [intOf]; omega
          · obtain rfl : k = l.length := by omega
            go_wp2
            go_ret
            exact ⟨rfl, below_next HW7.out HBW.out⟩
      · have HOK2 := Lib.hid hok2
        clear hok2
        go_wp2_with fail
        refine (HRMH.out false (no_iff HOK2.out)).mono ?_
        rintro e w5 ⟨rfl, hb5⟩
        go_wp2
        go_ret
        exact ⟨rfl, below_next HW4.out hb5⟩
  · have HOK := Lib.hid hok
    go_enter Try.func10, Try.ntmps10
    go_wp2_with fail
    refine (gawake_any _).mono ?_
    rintro e w1 ⟨rfl, hb1⟩
    have HB1 : Hid (Below w.heap.size w w1) := below_next hB.out hb1
    clear hb1
    go_wp2_with fail
    refine (right_any (r := false) _ _ l _ _ (no_iff HOK.out) HM.out (HP.out.next HB1.out)).mono ?_
    rintro e w2 ⟨rfl, hb2⟩
    go_wp2
    go_ret
    exact ⟨rfl, below_next HB1.out hb2⟩
end Go.Proofs.Ytnhplbhjbpdcaaa
