/- The program's valid and Valid; the reference's Valid. -/
import Derived.Test.YtlgnghehgcoccaaBoxOwn
namespace Go.Proofs.Ytlgnghehgcoccaa
open Go.RowKit
theorem nestL_iff (m : Nat) : ∀ l : List Bx, nestL l ≤ m ↔ ∀ i, i < l.length → nestB (kidAt l i) ≤ m
  | [] => ⟨fun _ i h => absurd h (by simp), fun _ => by simp [nestL_nil]⟩
  | t :: ts => by
    rw [nestL_cons]
    constructor
    · intro h i hi
      cases i with
      | zero => show nestB t ≤ m; omega
      | succ i => exact (nestL_iff m ts).1 (by omega) i (by simpa using hi)
    · intro h
      have h0 : nestB t ≤ m := h 0 (by simp)
      have h1 := (nestL_iff m ts).2 (fun i hi => h (i + 1) (by simpa using hi))
      omega
/-- A box at a depth is valid. -/
def okAt (t : Bx) (d : Nat) : Prop := properB t ∧ d + nestB t ≤ 101
theorem okAt_iff (t : Bx) (d : Nat) : okAt t d ↔ d ≤ 100 ∧ ownOk t ∧ ∀ i, i < t.kids.length → okAt (kidAt t.kids i) (d + 1) := by
  unfold okAt
  rw [properB_eq, properL_iff, nestB_eq]
  constructor
  · rintro ⟨⟨h1, h2⟩, h3⟩
    exact ⟨by omega, h1, fun i hi => ⟨h2 i hi, by have := (nestL_iff (100 - d) t.kids).1 (by omega) i hi; omega⟩⟩
  · rintro ⟨h1, h2, h3⟩
    refine ⟨⟨h2, fun i hi => (h3 i hi).1⟩, ?_⟩
    have := (nestL_iff (100 - d) t.kids).2 (fun i hi => by have := (h3 i hi).2; omega)
    omega
/-- The count of boxes, in the block s. -/
def CntAt (w : World) (s x : Nat) : Prop := w.heap[s]? = some (.cells #[.int .i64 (x : Int)] 3 (0, 0))
def ValTo (r : Bool) (s x c : Nat) (w : World) (e : Ending) (w' : World) : Prop := e = .returned (.bool r) ∧ Below s w w' ∧ ∃ x', CntAt w' s x' ∧ x' ≤ x + c ∧ (r = true → x' = x + c)
set_option maxRecDepth 100000 in
set_option maxHeartbeats 2000000 in
theorem bvalid_any : ∀ (n : Nat) (r : Bool) (t : Bx) (d x : Nat), cntB t ≤ n → lens t → d ≤ 101 → x + cntB t ≤ 20000 → (r = true ↔ okAt t d) → ∀ (b o_ s : Nat) (A : Option Addr) (c : Nat) (A' : Option Addr) (c' : Nat) (w : World), b < s → s < w.heap.size → CntAt w s x → BoxAt w b o_ t A c A' c' → Kids w 0 s A t.kids → Ints w 0 s A' t.src →
    Calls Try.prog 34 #[.pointer (some ⟨b, o_, none⟩), .int .i64 (d : Int), .pointer (some ⟨s, 0, none⟩)] w (ValTo r s x (cntB t) w) := by
  intro n
  induction n with
  | zero => intro r t d x h; have := cntB_pos t; omega
  | succ n ih =>
    intro r t d x hn hl hd hx hr b o_ s A c A' c' w hb hs hcnt hat hK hI
    have hc1 := cntB_eq t
    have HC1 := Lib.hid hc1
    have HOK := Lib.hid (okAt_iff t d)
    have HR := Lib.hid hr
    have HL := Lib.hid hl
    have HAT := Lib.hid hat
    have HK := Lib.hid hK
    have HI := Lib.hid hI
    have HCN := Lib.hid hcnt
    have y0 : w.cell? ⟨s, 0, none⟩ = some (.int .i64 (x : Int)) := blk_cell hcnt 0 _ rfl
    have z0 := blk_free hcnt 0
    have s1 : IntKind.i64.wrap ((x : Int) + 1) = ((x + 1 : Nat) : Int) := by rw [IntWalk.i64_in _ (by omega)]; rfl
    have hset : CntAt (w.setCell ⟨s, 0, none⟩ (.int .i64 ((x + 1 : Nat) : Int))) s (x + 1) := blk_set hcnt 0 _
    have HB1 : Hid (Below s w (w.setCell ⟨s, 0, none⟩ (.int .i64 ((x + 1 : Nat) : Int)))) := (Below.refl _ _).setCell (p := ⟨s, 0, none⟩) (Nat.le_refl _) _
    have hs1 : s < (w.setCell ⟨s, 0, none⟩ (.int .i64 ((x + 1 : Nat) : Int))).heap.size := (Array.getElem?_eq_some_iff.1 hset).1
    have HS1 := Lib.hid hset
    have y1 := blk_cell hset 0 (.int .i64 ((x + 1 : Nat) : Int)) rfl
    obtain ⟨x1, hx1⟩ : ∃ x1 : Nat, x + 1 = x1 := ⟨_, rfl⟩
    rw [hx1] at s1 HB1 hs1 HS1 y1
    obtain ⟨W1, hW1⟩ : ∃ W1, w.setCell ⟨s, 0, none⟩ (.int .i64 (x1 : Int)) = W1 := ⟨_, rfl⟩
    rw [hW1] at HB1 hs1 HS1 y1
    have q1 : decide ((20000 : Int) < (x1 : Int)) = false := decide_eq_false (by omega)
    have HX1 := Lib.hid hx1
    clear hr hl hat hK hI hset hcnt hx1
    by_cases hd1 : 100 < d
    · have q2 : decide ((100 : Int) < (d : Int)) = true := decide_eq_true (by omega)
      go_enter Try.func34, Try.ntmps34
      go_wp2
      go_ret
      exact ⟨ret_bool (is_false HR.out (fun h => by have := (HOK.out.1 h).1; omega)), HB1.out, x1, HS1.out, by have := HX1.out; have := HC1.out; omega, fun h => by subst h; exact absurd (HOK.out.1 (HR.out.1 rfl)).1 (by omega)⟩
    · have q2 : decide ((100 : Int) < (d : Int)) = false := decide_eq_false (by omega)
      have HAT1 : Hid (BoxAt W1 b o_ t A c A' c') := HAT.out.below HB1.out hb
      have HK1 : Hid (Kids W1 0 s A t.kids) := HK.out.low HB1.out
      have HI1 : Hid (Ints W1 0 s A' t.src) := HI.out.below HB1.out
      by_cases hown : ownOk t
      · have HOWN := Lib.hid hown
        clear hown
        go_enter Try.func34, Try.ntmps34
        go_wp2_with fail
        refine (bown_any (r := true) t _ _ _ _ _ _ _ HL.out (yes_iff HOWN.out) (by omega) HAT1.out (HI1.out.mono (Nat.le_refl _) (by omega))).mono ?_
        rintro e w2 ⟨rfl, hb2⟩
        have HB2 : Hid (Below s W1 w2) := hb2.mono (by omega)
        have HS2 : Hid (CntAt w2 s x1) := (hb2.block s hs1).trans HS1.out
        have hs2 : s < w2.heap.size := by have := hb2.size; omega
        have HAT2 : Hid (BoxAt w2 b o_ t A c A' c') := HAT1.out.below HB2.out hb
        have HK2 : Hid (Kids w2 0 s A t.kids) := HK1.out.low HB2.out
        have HBW : Hid (Below s w w2) := HB1.out.trans HB2.out
        have e8 := (HAT2.out.cells).2.2.2.2.2.2.2.2.1
        clear hb2 HB1 HB2 HAT1 HK1 HI1 HS1 y1 y0 z0
        go_wp2_with fail
        go_loopw [31] (fun q wr => ∃ k : Nat, k ≤ t.kids.length ∧ q = .int .i64 (k : Int) ∧ (∀ i, i < k → okAt (kidAt t.kids i) (d + 1)) ∧ CntAt wr s (x1 + cntL (t.kids.take k)) ∧ Below s w2 wr) (fun q _ => t.kids.length - (intOf q).toNat)
        case atStart => exact ⟨0, Nat.zero_le _, rfl, fun i h => absurd h (Nat.not_lt_zero _), by simpa [cntL_nil] using HS2.out, Below.refl _ _⟩
        case round =>
          obtain ⟨k, hk, rfl, hall, hct, hbw⟩ := hrel
          have HALL := Lib.hid hall
          have HBX := Lib.hid hbw
          have HCT := Lib.hid hct
          have hsr : s < wr.heap.size := (Array.getElem?_eq_some_iff.1 hct).1
          clear hall hct hbw e8
          by_cases hlt : k < t.kids.length
          · have e8 := ((HAT2.out.below HBX.out hb).cells).2.2.2.2.2.2.2.2.1
            obtain ⟨b1, off, A1, c1, A2, c2, rfl, _, hb1, hat, hk1, hi1, hl1⟩ := HK2.out.at hlt
            have hck := cnt_kid t.kids hlt
            have hctk := cnt_take t.kids hlt
            have hcl := cnt_take_le t.kids (k + 1)
            have hlk := cnt_len t.kids
            obtain ⟨u, hu⟩ : ∃ u, kidAt t.kids k = u := ⟨_, rfl⟩
            rw [hu] at hat hck hctk hk1 hi1 hl1
            have HU := Lib.hid hu
            obtain ⟨m, hm⟩ : ∃ m, x1 + cntL (t.kids.take k) = m := ⟨_, rfl⟩
            have hx1 := HX1.out
            have hmb : m + cntB u ≤ 20000 := by omega
            have HM : Hid (x1 + cntL (t.kids.take (k + 1)) = m + cntB u) := by show _ = _; omega
            have HM2 : Hid (m + cntB u ≤ x + cntB t) := by show _ ≤ _; omega
            rw [hm] at HCT
            have hub : cntB u ≤ n := by omega
            have s2 : IntKind.i64.wrap ((d : Int) + 1) = ((d + 1 : Nat) : Int) := by rw [IntWalk.i64_in _ (by omega)]; rfl
            have HCALL : Hid (∀ ru : Bool, (ru = true ↔ okAt u (d + 1)) → Calls Try.prog 34 #[.pointer (some ⟨b1, off + k * 11, none⟩), .int .i64 ((d + 1 : Nat) : Int), .pointer (some ⟨s, 0, none⟩)] wr (ValTo ru s m (cntB u) wr)) := fun ru hru =>
              ih ru u (d + 1) m hub hl1 (by omega) hmb hru b1 (off + k * 11) s A1 c1 A2 c2 wr hb1 hsr HCT.out (hat.below HBX.out hb1) (hk1.low HBX.out) (hi1.below HBX.out)
            obtain ⟨d1, hdd⟩ : ∃ d1 : Nat, d + 1 = d1 := ⟨_, rfl⟩
            rw [hdd] at s2 HCALL
            have HDD := Lib.hid hdd
            clear hat hk1 hi1 hl1 hu hm hdd hck hctk hcl
            by_cases hru : okAt u d1
            · have HRU := Lib.hid hru
              clear hru
              go_wp2_with fail
              refine (HCALL.out true (yes_iff HRU.out)).mono ?_
              rintro e w3 ⟨rfl, hb3, x3, hc3, _, hx3⟩
              have HC3 : Hid (CntAt w3 s (x1 + cntL (t.kids.take (k + 1)))) := by
                show CntAt _ _ _
                rw [HM.out, ← hx3 rfl]; exact hc3
              have HB3 : Hid (Below s w2 w3) := HBX.out.trans hb3
              clear hb3 hc3 hx3
              go_wp2_with fail
              go_roundw
              case rel => exact ⟨k + 1, by omega, by go_num, fun i hi => by rcases Nat.lt_succ_iff_lt_or_eq.1 hi with h | rfl; exact HALL.out i h; rw [HU.out, HDD.out]; exact HRU.out, HC3.out, HB3.out⟩
              case measure => simp [intOf]; omega
            · have HRU := Lib.hid hru
              clear hru
              go_wp2_with fail
              refine (HCALL.out false (no_iff HRU.out)).mono ?_
              rintro e w3 ⟨rfl, hb3, x3, hc3, hx3, _⟩
              have HNO : Hid (¬ okAt t d) := fun h => HRU.out (by have := (HOK.out.1 h).2.2 k hlt; rw [HU.out, HDD.out] at this; exact this)
              go_wp2
              go_ret
              exact ⟨ret_bool (is_false HR.out HNO.out), HBW.out.trans (HBX.out.trans hb3), x3, hc3, by have := HM2.out; omega, fun h => by subst h; exact absurd (HR.out.1 rfl) HNO.out⟩
          · obtain rfl : k = t.kids.length := by omega
            have HYES : Hid (okAt t d) := HOK.out.2 ⟨by omega, HOWN.out, HALL.out⟩
            have hx1 := HX1.out
            go_wp2
            go_ret
            refine ⟨ret_bool (is_true HR.out HYES.out), HBW.out.trans HBX.out, _, HCT.out, ?_, fun _ => ?_⟩
            · rw [List.take_length]; omega
            · rw [List.take_length]; omega
      · have HOWN := Lib.hid hown
        have HNO : Hid (¬ okAt t d) := fun h => hown (HOK.out.1 h).2.1
        clear hown
        go_enter Try.func34, Try.ntmps34
        go_wp2_with fail
        refine (bown_any (r := false) t _ _ _ _ _ _ _ HL.out (no_iff HOWN.out) (by omega) HAT1.out (HI1.out.mono (Nat.le_refl _) (by omega))).mono ?_
        rintro e w2 ⟨rfl, hb2⟩
        go_wp2
        go_ret
        exact ⟨ret_bool (is_false HR.out HNO.out), HB1.out.trans (hb2.mono (by omega)), x1, (hb2.block s hs1).trans HS1.out, by have := HX1.out; have := HC1.out; omega, fun h => by subst h; exact absurd (HR.out.1 rfl) HNO.out⟩
set_option maxHeartbeats 1000000 in
/-- The program's Valid. -/
theorem bValid_any {r : Bool} (t : Bx) (A : Option Addr) (c : Nat) (A' : Option Addr) (c' : Nat) (w : World) (hl : lens t) (hc : cntB t ≤ 20000) (hr : r = true ↔ validB t) (hK : Kids w 0 w.heap.size A t.kids) (hI : Ints w 0 w.heap.size A' t.src) :
    Calls Try.prog 23 #[.agg (bxA t A c A' c')] w fun e w' => e = .returned (.bool r) ∧ Below w.heap.size w w' := by
  have HR : Hid (r = true ↔ okAt t 1) := hr.trans ⟨fun h => ⟨h.1, by have := h.2.2; omega⟩, fun h => ⟨h.1, hc, by have := h.2; omega⟩⟩
  have HL := Lib.hid hl
  have hd0 : ((w.alloc (.cells (bxA t A c A' c') 25)).alloc (.cells #[.int .i64 0] 3)).heap[w.heap.size]? = some (.cells (bxA t A c A' c') 25 (0, 0)) := blk_more (blk_new _ _) _
  have hd1 : ((w.alloc (.cells (bxA t A c A' c') 25)).alloc (.cells #[.int .i64 0] 3)).heap[w.heap.size + 1]? = some (.cells #[.int .i64 0] 3 (0, 0)) := by
    have := blk_new (w.alloc (.cells (bxA t A c A' c') 25)) (.cells #[.int .i64 0] 3)
    rw [World.size_alloc] at this
    exact this
  have hb := two_below w (.cells (bxA t A c A' c') 25) (.cells #[.int .i64 0] 3)
  have HK : Hid (Kids ((w.alloc (.cells (bxA t A c A' c') 25)).alloc (.cells #[.int .i64 0] 3)) 0 (w.heap.size + 1) A t.kids) := (hK.low hb).mono (Nat.le_refl _) (by omega)
  have HI : Hid (Ints ((w.alloc (.cells (bxA t A c A' c') 25)).alloc (.cells #[.int .i64 0] 3)) 0 (w.heap.size + 1) A' t.src) := (hI.below hb).mono (Nat.le_refl _) (by omega)
  have hs : ((w.alloc (.cells (bxA t A c A' c') 25)).alloc (.cells #[.int .i64 0] 3)).heap.size = w.heap.size + 2 := by simp
  have HSZ := Lib.hid hs
  have hz1 := blk_free hd1 0
  have HD0 := Lib.hid hd0
  have HD1 := Lib.hid hd1
  have HB := Lib.hid hb
  have hcs := cntB_pos t
  clear hr hl hK hI hd0 hd1 hb hs
  go_enter Try.func23, Try.ntmps23
  go_wp2_with fail
  refine (bvalid_any (cntB t) r t 1 0 (Nat.le_refl _) HL.out (by omega) (by omega) HR.out w.heap.size 0 (w.heap.size + 1) A c A' c' _ (by omega) (by have := HSZ.out; omega) HD1.out (fun j hj => ?_) HK.out HI.out).mono ?_
  · rw [Nat.zero_add]
    exact cell_of_row _ _ _ _ _ _ HD0.out
  · rintro e w1 ⟨rfl, hb1, _⟩
    go_wp2
    go_ret
    exact ⟨rfl, HB.out.trans (hb1.mono (by omega))⟩
set_option maxHeartbeats 1000000 in
/-- The reference's Valid. -/
theorem rValid_any {r : Bool} (t : Bx) (A : Option Addr) (c : Nat) (A' : Option Addr) (c' : Nat) (w : World) (hl : lens t) (hc : cntB t ≤ 20000) (hr : r = true ↔ validB t) (hK : Kids w 0 w.heap.size A t.kids) (hI : Ints w 0 w.heap.size A' t.src) :
    Calls Try.prog 20 #[.agg (bxA t A c A' c')] w fun e w' => e = .returned (.bool r) ∧ Below w.heap.size w w' := by
  have HR := Lib.hid hr
  have HL := Lib.hid hl
  have hb := one_below w (.cells (bxA t A c A' c') 25)
  have HK : Hid (Kids (w.alloc (.cells (bxA t A c A' c') 25)) 0 (w.alloc (.cells (bxA t A c A' c') 25)).heap.size A t.kids) := hK.next hb
  have HI : Hid (Ints (w.alloc (.cells (bxA t A c A' c') 25)) 0 (w.alloc (.cells (bxA t A c A' c') 25)).heap.size A' t.src) := hI.next hb
  have hd0 : (w.alloc (.cells (bxA t A c A' c') 25)).heap[w.heap.size]? = some (.cells (bxA t A c A' c') 25 (0, 0)) := blk_new _ _
  have HB := Lib.hid hb
  have HD0 := Lib.hid hd0
  have hnc := nest_cnt _ t (Nat.le_refl _)
  have qc : decide ((cntB t : Int) ≤ 20000) = true := decide_eq_true (by omega)
  clear hr hl hK hI hb hd0
  by_cases hp : properB t
  · have HP := Lib.hid hp
    have HRN : Hid (r = decide ((nestB t : Int) ≤ 100)) := by
      show _ = _
      by_cases h : nestB t ≤ 100
      · rw [decide_eq_true (show (nestB t : Int) ≤ 100 by omega)]; exact HR.out.2 ⟨hp, hc, h⟩
      · rw [decide_eq_false (show ¬ (nestB t : Int) ≤ 100 by omega)]; exact (is_false HR.out (fun h2 => h h2.2.2)).symm
    clear hp
    go_enter Try.func20, Try.ntmps20
    go_wp2_with fail
    refine (rproper_any (cntB t) true t (Nat.le_refl _) (by omega) HL.out (yes_iff HP.out) A c A' c' _ HK.out HI.out).mono ?_
    rintro e w1 ⟨rfl, hb1⟩
    have d := (hb1.block w.heap.size (by simp)).trans HD0.out
    have HB1 := Lib.hid hb1
    have HK1 := Lib.hid (HK.out.next hb1)
    have HD1 := Lib.hid d
    have b0 := blk_cell d 0 (.int .i64 t.k) rfl
    have b1 := blk_cell d 1 (.string t.nm) rfl
    have b2 := blk_cell d 2 (.int .i64 t.sz) rfl
    have b3 := blk_cell d 3 (.int .i64 t.w) rfl
    have b4 := blk_cell d 4 (.int .i64 t.h) rfl
    have b5 := blk_cell d 5 (.int .i64 t.d) rfl
    have b6 := blk_cell d 6 (.int .i64 t.x) rfl
    have b7 := blk_cell d 7 (.int .i64 t.y) rfl
    have b8 := blk_cell d 8 (.slice A t.kids.length c) rfl
    have b9 := blk_cell d 9 (.int .i64 t.of_) rfl
    have b10 := blk_cell d 10 (.slice A' t.src.length c') rfl
    clear hb1 d
    go_wp2_with fail
    refine (rcount_any (cntB t) t (Nat.le_refl _) (by omega) A c A' c' _ HK1.out).mono ?_
    rintro e w2 ⟨rfl, hb2⟩
    have d := (hb2.block w.heap.size (by have := HB1.out.size; simp at this; omega)).trans HD1.out
    have HB2 := Lib.hid (below_next HB1.out hb2)
    have HK2 := Lib.hid (HK1.out.next hb2)
    have b0 := blk_cell d 0 (.int .i64 t.k) rfl
    have b1 := blk_cell d 1 (.string t.nm) rfl
    have b2 := blk_cell d 2 (.int .i64 t.sz) rfl
    have b3 := blk_cell d 3 (.int .i64 t.w) rfl
    have b4 := blk_cell d 4 (.int .i64 t.h) rfl
    have b5 := blk_cell d 5 (.int .i64 t.d) rfl
    have b6 := blk_cell d 6 (.int .i64 t.x) rfl
    have b7 := blk_cell d 7 (.int .i64 t.y) rfl
    have b8 := blk_cell d 8 (.slice A t.kids.length c) rfl
    have b9 := blk_cell d 9 (.int .i64 t.of_) rfl
    have b10 := blk_cell d 10 (.slice A' t.src.length c') rfl
    clear hb2 d
    go_wp2_with fail
    refine (rnest_any (cntB t) t (Nat.le_refl _) (by omega) A c A' c' _ HK2.out).mono ?_
    rintro e w3 ⟨rfl, hb3⟩
    go_wp2
    go_ret
    exact ⟨ret_bool HRN.out.symm, below_next HB.out (below_next HB2.out hb3)⟩
  · have HP := Lib.hid hp
    clear hp
    go_enter Try.func20, Try.ntmps20
    go_wp2_with fail
    refine (rproper_any (cntB t) false t (Nat.le_refl _) (by omega) HL.out (no_iff HP.out) A c A' c' _ HK.out HI.out).mono ?_
    rintro e w1 ⟨rfl, hb1⟩
    go_wp2
    go_ret
    exact ⟨ret_bool (is_false HR.out (fun h => HP.out h.1)), below_next HB.out hb1⟩
end Go.Proofs.Ytlgnghehgcoccaa
