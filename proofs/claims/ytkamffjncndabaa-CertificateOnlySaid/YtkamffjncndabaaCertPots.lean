/- vinculumlaw46.potentials. -/
import Derived.Test.YtkamffjncndabaaLawMake
namespace Go.Proofs.Ytkamffjncndabaa
open Go.RowKit
def chgAt (l nums : List Int) (i : Nat) : Int := if i < nums.length ∧ -1000 ≤ lAt nums i ∧ lAt nums i ≤ 1000 then lAt l i + lAt nums i else lAt l i
def chgL (l nums : List Int) : List Int := (List.range l.length).map (chgAt l nums)
theorem chgL_len (l nums : List Int) : (chgL l nums).length = l.length := by simp [chgL]
theorem chgL_at (l nums : List Int) {k : Nat} (hk : k < l.length) : lAt (chgL l nums) k = chgAt l nums k := by simp [lAt, chgL, List.getD, hk]
def claimL (ps : List Pc) (wd ind : Int) (nums : List Int) (ch : Bool) : List Int := if ch = true then chgL (makeL ps wd ind) nums else nums
theorem claimL_len (ps : List Pc) (wd ind : Int) (nums : List Int) (ch : Bool) : (claimL ps wd ind nums ch).length ≤ ps.length + 1 + nums.length := by
  unfold claimL
  split
  · rw [chgL_len]; have := makeL_len ps wd ind; omega
  · omega
/-- The first k numbers are added. -/
def chgF (T : Nat → Int) (nums : List Int) (k : Nat) : Nat → Int := fun j => if j < k ∧ j < nums.length ∧ -1000 ≤ lAt nums j ∧ lAt nums j ≤ 1000 then T j + lAt nums j else T j
theorem chgF_zero (T : Nat → Int) (nums : List Int) (j : Nat) : T j = chgF T nums 0 j := by unfold chgF; rw [if_neg (by omega)]
theorem chgF_at (T : Nat → Int) (nums : List Int) (k : Nat) : chgF T nums k k = T k := by unfold chgF; rw [if_neg (by omega)]
theorem chgF_skip {T : Nat → Int} {nums : List Int} {k : Nat} (h : ¬ (-1000 ≤ lAt nums k ∧ lAt nums k ≤ 1000)) (j : Nat) : chgF T nums k j = chgF T nums (k + 1) j := by
  unfold chgF
  by_cases e : j = k
  · subst e; rw [if_neg (by omega), if_neg (fun a => h a.2.2)]
  · by_cases a : j < k ∧ j < nums.length ∧ -1000 ≤ lAt nums j ∧ lAt nums j ≤ 1000
    · rw [if_pos a, if_pos ⟨by omega, a.2⟩]
    · rw [if_neg a, if_neg (fun b => a ⟨by omega, b.2⟩)]
theorem chgF_take {T : Nat → Int} {nums : List Int} {k : Nat} (hk : k < nums.length) (h : -1000 ≤ lAt nums k ∧ lAt nums k ≤ 1000) (j : Nat) : chgF T nums (k + 1) j = if j = k then T k + lAt nums k else chgF T nums k j := by
  by_cases e : j = k
  · subst e; rw [if_pos rfl]; unfold chgF; rw [if_pos ⟨by omega, hk, h⟩]
  · rw [if_neg e]
    unfold chgF
    by_cases a : j < k ∧ j < nums.length ∧ -1000 ≤ lAt nums j ∧ lAt nums j ≤ 1000
    · rw [if_pos a, if_pos ⟨by omega, a.2⟩]
    · rw [if_neg a, if_neg (fun b => a ⟨by omega, b.2⟩)]
def PotsTo (l : List Int) (w : World) (e : Ending) (w' : World) : Prop := (∃ A' c', e = .returned (.slice A' l.length c') ∧ Ints w' w'.heap.size A' l) ∧ Below w.heap.size w w'
theorem below_two (w : World) (a b : Obj) : Below w.heap.size w ((w.alloc a).alloc b) := ((Below.refl _ w).alloc (Nat.le_refl _) _).alloc (by simp) _
theorem kept_two {w W : World} {cs ds : Array Value} {t u : TypeId} (hb : Below ((w.alloc (.cells cs t)).alloc (.cells ds u)).heap.size ((w.alloc (.cells cs t)).alloc (.cells ds u)) W) (k : Nat) (v : Value) :
    (cs[k]? = some v → W.cell? ⟨w.heap.size, k, none⟩ = some v) ∧ (ds[k]? = some v → W.cell? ⟨w.heap.size + 1, k, none⟩ = some v) := by
  have h0 : ((w.alloc (.cells cs t)).alloc (.cells ds u)).heap[w.heap.size]? = some (.cells cs t (0, 0)) := blk_more (blk_new w _) _
  have h1 : ((w.alloc (.cells cs t)).alloc (.cells ds u)).heap[w.heap.size + 1]? = some (.cells ds u (0, 0)) := by have := blk_new (w.alloc (.cells cs t)) (.cells ds u); simpa using this
  have hs : ((w.alloc (.cells cs t)).alloc (.cells ds u)).heap.size = w.heap.size + 2 := by simp
  exact ⟨fun h => (hb.cell (p := ⟨w.heap.size, k, none⟩) (by rw [hs]; show w.heap.size < _; omega)).trans ((cell_of_row _ _ _ _ _ (0, 0) h0).trans h), fun h => (hb.cell (p := ⟨w.heap.size + 1, k, none⟩) (by rw [hs]; show w.heap.size + 1 < _; omega)).trans ((cell_of_row _ _ _ _ _ (0, 0) h1).trans h)⟩
theorem pots_lit (A As An : Option Addr) (c n cs cn : Nat) (ps : List Pc) (nums : List Int) (wd ind : Int) (w : World) :
    Calls Try.prog 14 #[.slice A ps.length c, .agg #[.int .i64 wd, .int .i64 ind], .agg #[.slice As n cs, .slice An nums.length cn, .bool false]] w fun e w' => e = .returned (.slice An nums.length cn) ∧ Below w.heap.size w w' := by
  go_enter Try.func14, Try.ntmps14
  go_wp2
  go_ret
  exact ⟨rfl, below_two _ _ _⟩
theorem pots_no (A As An : Option Addr) (c n cs cn : Nat) (ps : List Pc) (nums : List Int) (wd ind : Int) (w : World) (hp : parB ps wd ind = false) (hm : ps.length ≤ lenMax) (hP : Pcs w w.heap.size A ps) :
    Calls Try.prog 14 #[.slice A ps.length c, .agg #[.int .i64 wd, .int .i64 ind], .agg #[.slice As n cs, .slice An nums.length cn, .bool true]] w fun e w' => e = .returned (.slice none 0 0) ∧ Below w.heap.size w w' := by
  have HM := Lib.hid hm
  have HP := Lib.hid hP
  have HQ := Lib.hid hp
  clear hm hP hp
  go_enter Try.func14, Try.ntmps14
  go_wp2_with fail
  refine (rMake_no _ _ ps _ _ _ HQ.out HM.out (HP.out.next (below_two _ _ _))).mono ?_
  rintro e w1 ⟨rfl, hb1⟩
  have g1 := (kept_two hb1 1 _).2 rfl
  go_wp2
  go_loopw [9] (fun q wr => q = .int .i64 0 ∧ wr = w1) (fun q _ => 0)
  case atStart => exact ⟨rfl, rfl⟩
  case round =>
    obtain ⟨rfl, rfl⟩ := hrel
    go_wp2
    go_ret
    exact ⟨rfl, below_next (below_two _ _ _) hb1⟩
set_option maxRecDepth 100000 in
set_option maxHeartbeats 2000000 in
theorem pots_yes (A As An : Option Addr) (c n cs cn : Nat) (ps : List Pc) (nums : List Int) (wd ind : Int) (w : World) (hp : parB ps wd ind = true) (hn : nums.length ≤ 100) (hP : Pcs w w.heap.size A ps) (hN : Ints w w.heap.size An nums) :
    Calls Try.prog 14 #[.slice A ps.length c, .agg #[.int .i64 wd, .int .i64 ind], .agg #[.slice As n cs, .slice An nums.length cn, .bool true]] w fun e w' =>
      (∃ b ds, e = .returned (.slice (some ⟨b, 0, none⟩) (ps.length + 1) (ps.length + 1)) ∧ w'.heap[b]? = some (.cells ds 3 (0, 0)) ∧ IntC ds ps.length (chgF (pT ps wd ind) nums nums.length)) ∧ Below w.heap.size w w' := by
  have h64 := (validB_iff.1 (parB_iff.1 hp).1).1.2
  have HT : Hid (∀ k, k ≤ ps.length → -64000000000 ≤ pT ps wd ind k ∧ pT ps wd ind k ≤ 64000000000) := fun k hk => pT_bound (parB_iff.1 hp).1 (parB_iff.1 hp).2 hk
  have HP := Lib.hid hP
  have HN := Lib.hid hN
  have HQ := Lib.hid hp
  clear hP hN hp
  go_enter Try.func14, Try.ntmps14
  go_wp2_with fail
  refine (rMake_yes _ _ ps _ _ _ HQ.out (HP.out.next (below_two _ _ _))).mono ?_
  rintro e w1 ⟨⟨b, ds, rfl, hbw, hbk, hic⟩, hb1⟩
  have g0 := (kept_two hb1 0 _).2 rfl
  have g1 := (kept_two hb1 1 _).2 rfl
  have hws : w.heap.size + 2 ≤ b := by simpa using hbw
  have HB1 : Hid (Below w.heap.size w w1) := below_next (below_two _ _ _) hb1
  have hb2 : b < w1.heap.size := (Array.getElem?_eq_some_iff.1 hbk).1
  have HG := Lib.hid g1
  have HC := Lib.hid (And.intro hbk hic)
  clear hbk hic hb1 hbw g0
  go_wp2
  clear g1
  go_loopw [9] (fun q wr => ∃ (k : Nat) (ds : Array Value), k ≤ ps.length + 1 ∧ k ≤ nums.length ∧ q = .int .i64 (k : Int) ∧ wr.heap[b]? = some (.cells ds 3 (0, 0)) ∧ IntC ds ps.length (chgF (pT ps wd ind) nums k) ∧ Below b w1 wr) (fun q _ => ps.length + 1 - (intOf q).toNat)
  case atStart => exact ⟨0, ds, Nat.zero_le _, Nat.zero_le _, rfl, HC.out.1, HC.out.2.congr (fun j _ => chgF_zero _ _ _), Below.refl _ _⟩
  case round =>
    obtain ⟨k, ds, hk, hkn, rfl, hd, hic, hbw⟩ := hrel
    have g1 := (hbw.cell (p := ⟨w.heap.size + 1, 1, none⟩) (by show w.heap.size + 1 < b; omega)).trans HG.out
    have HW : Hid (Below w.heap.size w wr) := HB1.out.trans (hbw.mono (by omega))
    have HBW := Lib.hid hbw
    have HIC := Lib.hid (And.intro hd hic)
    clear hbw hd hic
    by_cases hkl : k < ps.length + 1
    · by_cases hkm : k < nums.length
      · obtain ⟨bn, on, rfl, hbn, hcn⟩ := HN.out (by omega)
        have n0 := (HW.out.cell (p := ⟨bn, on + k, none⟩) hbn).trans (hcn k hkm)
        obtain ⟨x, hx⟩ : ∃ x, lAt nums k = x := ⟨_, rfl⟩
        rw [hx] at n0
        have b1 : (k : Int) < (ps.length : Int) + 1 := by omega
        have b2 : (k : Int) < (nums.length : Int) := by omega
        have HX := Lib.hid hx
        clear hx hcn
        by_cases hr1 : -1000 ≤ x
        · by_cases hr2 : x ≤ 1000
          · have hz := HT.out k (by omega)
            obtain ⟨z, hz0⟩ : ∃ z, pT ps wd ind k = z := ⟨_, rfl⟩
            rw [hz0] at hz
            have hz1 := hz.1
            have hz2 := hz.2
            have HLI : Hid (ds[k]? = some (.int .i64 z)) := by
              show _ = _
              rw [← hz0, ← chgF_at (pT ps wd ind) nums k]
              exact HIC.out.2 k (by omega)
            have HZ := Lib.hid hz0
            clear hz hz0
            have li := blk_cell HIC.out.1 k _ HLI.out
            have zi := blk_free HIC.out.1 k
            have s1 : IntKind.i64.wrap (z + x) = z + x := IntWalk.i64_in _ (by omega)
            go_wp2_with fail
            go_region
            go_wp2
            go_roundw
            case rel =>
              refine ⟨k + 1, ds.setIfInBounds k (.int .i64 (z + x)), by omega, by omega, by go_num, ?_, HIC.out.2.set (by omega) (z + x) (fun m _ => ?_), ?_⟩
              · exact blk_set HIC.out.1 k _
              · rw [chgF_take hkm (by rw [HX.out]; exact ⟨hr1, hr2⟩), HX.out, HZ.out]
              · exact (HBW.out.setCell (p := ⟨b, k, none⟩) (Nat.le_refl _) _).drew
            case measure => simp [intOf]; omega
          · go_wp2
            go_roundw
            case rel => exact ⟨k + 1, ds, by omega, by omega, by go_num, HIC.out.1, HIC.out.2.congr (fun j _ => chgF_skip (by rw [HX.out]; omega) j), HBW.out⟩
            case measure => simp [intOf]; omega
        · go_wp2
          go_roundw
          case rel => exact ⟨k + 1, ds, by omega, by omega, by go_num, HIC.out.1, HIC.out.2.congr (fun j _ => chgF_skip (by rw [HX.out]; omega) j), HBW.out⟩
          case measure => simp [intOf]; omega
      · obtain rfl : k = nums.length := by omega
        have b1 : (nums.length : Int) < (ps.length : Int) + 1 := by omega
        go_wp2
        go_ret
        exact ⟨⟨b, ds, rfl, HIC.out.1, HIC.out.2⟩, HW.out⟩
    · obtain rfl : k = ps.length + 1 := by omega
      go_wp2
      go_ret
      refine ⟨⟨b, ds, rfl, HIC.out.1, HIC.out.2.congr (fun j hj => ?_)⟩, HW.out⟩
      unfold chgF
      have e : (j < ps.length + 1 ∧ j < nums.length ∧ -1000 ≤ lAt nums j ∧ lAt nums j ≤ 1000) = (j < nums.length ∧ j < nums.length ∧ -1000 ≤ lAt nums j ∧ lAt nums j ≤ 1000) := by apply propext; omega
      simp only [e]
theorem pots_any (A As An : Option Addr) (c n cs cn : Nat) (ps : List Pc) (nums : List Int) (wd ind : Int) (ch : Bool) (w : World) (hm : ps.length ≤ lenMax) (hn : nums.length ≤ 100) (hP : Pcs w w.heap.size A ps) (hN : Ints w w.heap.size An nums) :
    Calls Try.prog 14 #[.slice A ps.length c, .agg #[.int .i64 wd, .int .i64 ind], .agg #[.slice As n cs, .slice An nums.length cn, .bool ch]] w (PotsTo (claimL ps wd ind nums ch) w) := by
  cases ch with
  | false =>
    refine (pots_lit A As An c n cs cn ps nums wd ind w).mono ?_
    rintro e w' ⟨he, hb⟩
    exact ⟨⟨An, cn, he, hN.next hb⟩, hb⟩
  | true =>
    cases hp : parB ps wd ind with
    | false =>
      refine (pots_no A As An c n cs cn ps nums wd ind w hp hm hP).mono ?_
      rintro e w' ⟨he, hb⟩
      have hz : (claimL ps wd ind nums true).length = 0 := by unfold claimL makeL; simp [hp, chgL]
      exact ⟨⟨none, 0, by rw [hz]; exact he, fun h => absurd h (by omega)⟩, hb⟩
    | true =>
      refine (pots_yes A As An c n cs cn ps nums wd ind w hp hn hP hN).mono ?_
      rintro e w' ⟨⟨b, ds, he, hb, hc⟩, hbw⟩
      have hcl : claimL ps wd ind nums true = chgL (potL ps wd ind) nums := by unfold claimL makeL; rw [if_pos rfl, if_pos hp]
      have hz : (claimL ps wd ind nums true).length = ps.length + 1 := by rw [hcl, chgL_len, potL_len]
      refine ⟨⟨some ⟨b, 0, none⟩, ps.length + 1, by rw [hz]; exact he, fun _ => ⟨b, 0, rfl, (Array.getElem?_eq_some_iff.1 hb).1, fun k hk => ?_⟩⟩, hbw⟩
      rw [hz] at hk
      rw [hcl, chgL_at _ _ (by rw [potL_len]; exact hk), Nat.zero_add]
      have := blk_cell hb k _ (hc k (by omega))
      rw [this]
      unfold chgF chgAt
      rw [potL_at _ _ _ (by omega)]
      have e : (k < nums.length ∧ k < nums.length ∧ -1000 ≤ lAt nums k ∧ lAt nums k ≤ 1000) = (k < nums.length ∧ -1000 ≤ lAt nums k ∧ lAt nums k ≤ 1000) := by apply propext; omega
      simp only [e]
end Go.Proofs.Ytkamffjncndabaa
