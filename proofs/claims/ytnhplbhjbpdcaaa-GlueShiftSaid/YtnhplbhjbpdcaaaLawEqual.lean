/- The walk of GlueEqual. -/
import Derived.Test.YtnhplbhjbpdcaaaLawExact
import Derived.Test.YtnhplbhjbpdcaaaAppEl
namespace Go.Proofs.Ytnhplbhjbpdcaaa
open Go.RowKit
def glC (x : Gl) : Array Value := #[.int .i64 x.wd, .int .i64 x.st, .int .i64 x.sh, .int .i64 x.od]
def glCell (x : Gl) (j : Nat) : Value := .int .i64 (if j % 4 = 0 then x.wd else if j % 4 = 1 then x.st else if j % 4 = 2 then x.sh else x.od)
def eqV (x : Gl) (n : Nat) : List Value := (List.range (n * 4)).map (glCell x)
theorem eqV_succ (x : Gl) (n : Nat) : eqV x (n + 1) = eqV x n ++ (glC x).toList := by
  have e0 : glCell x (n * 4) = .int .i64 x.wd := by unfold glCell; rw [if_pos (by omega)]
  have e1 : glCell x (n * 4 + 1) = .int .i64 x.st := by unfold glCell; rw [if_neg (by omega), if_pos (by omega)]
  have e2 : glCell x (n * 4 + 2) = .int .i64 x.sh := by unfold glCell; rw [if_neg (by omega), if_neg (by omega), if_pos (by omega)]
  have e3 : glCell x (n * 4 + 3) = .int .i64 x.od := by unfold glCell; rw [if_neg (by omega), if_neg (by omega), if_neg (by omega)]
  unfold eqV
  rw [show (n + 1) * 4 = n * 4 + 1 + 1 + 1 + 1 by omega, List.range_succ, List.range_succ, List.range_succ, List.range_succ]
  simp only [List.map_append, List.map_cons, List.map_nil, e0, e1, e2, e3, List.append_assoc, List.cons_append, List.nil_append]
  rfl
theorem eqV_at (x : Gl) {n j : Nat} (h : j < n * 4) : (eqV x n)[j]? = some (glCell x j) := by
  unfold eqV
  simp [h]
/-- n equal elements. -/
def eqL (x : Gl) (n : Nat) : List Gl := List.replicate n x
theorem eqL_len (x : Gl) (n : Nat) : (eqL x n).length = n := by simp [eqL]
theorem eqL_at (x : Gl) {n k : Nat} (h : k < n) : wdAt (eqL x n) k = x.wd ∧ stAt (eqL x n) k = x.st ∧ shAt (eqL x n) k = x.sh ∧ odAt (eqL x n) k = x.od := by
  have e : (eqL x n).getD k glZ = x := by simp [eqL, List.getD, h]
  unfold wdAt stAt shAt odAt
  rw [e]
  exact ⟨rfl, rfl, rfl, rfl⟩
theorem eqL_gls {w : World} {base c n : Nat} {e : TypeId} {A : Option Addr} {x : Gl} (h : w.ownsRow base e 4 (.slice A n c) n (eqV x n)) : Gls w w.heap.size A (eqL x n) := fun h0 => by
  rw [eqL_len] at h0
  obtain ⟨g, rfl, _, hlt, _, hc⟩ := own_cell h h0
  refine ⟨g, 0, rfl, hlt, fun k hk => ?_⟩
  rw [eqL_len] at hk
  obtain ⟨e0, e1, e2, e3⟩ := eqL_at x hk
  rw [e0, e1, e2, e3, Nat.zero_add]
  refine ⟨?_, ?_, ?_, ?_⟩
  · refine (hc _ _ (eqV_at x (by omega))).trans ?_
    unfold glCell; rw [if_pos (by omega)]
  · refine (hc _ _ (eqV_at x (by omega))).trans ?_
    unfold glCell; rw [if_neg (by omega), if_pos (by omega)]
  · refine (hc _ _ (eqV_at x (by omega))).trans ?_
    unfold glCell; rw [if_neg (by omega), if_neg (by omega), if_pos (by omega)]
  · refine (hc _ _ (eqV_at x (by omega))).trans ?_
    unfold glCell; rw [if_neg (by omega), if_neg (by omega), if_neg (by omega)]
theorem infoG : (Try.prog.info? 36).map (fun i => (i.zero, i.size, i.bytes)) = some (some (.agg #[.int .i64 0, .int .i64 0, .int .i64 0, .int .i64 0]), 4, 32) := by kernel_rfl
theorem kept_box {w W : World} {cs : Array Value} {t : TypeId} (hb : Below (w.alloc (.cells cs t)).heap.size (w.alloc (.cells cs t)) W) (k : Nat) (v : Value) (hk : cs[k]? = some v) : W.cell? ⟨w.heap.size, k, none⟩ = some v :=
  (hb.cell (p := ⟨w.heap.size, k, none⟩) (by simp)).trans ((cell_made w cs t k).trans hk)
set_option maxRecDepth 100000 in
set_option maxHeartbeats 2000000 in
theorem glueEqual_walk (a s q d n wd : Int) (w : World) (hn0 : 0 ≤ n) (hn1 : n ≤ 255) :
    Calls Try.prog 9 #[.agg #[.int .i64 a, .int .i64 s, .int .i64 q, .int .i64 d], .int .u8 n, .int .i64 wd] w fun e w' => e = .returned (.bool true) ∧ Below w.heap.size w w' := by
  obtain ⟨i0, hi0, hz0, hz1, hz2⟩ := info_parts infoG
  obtain ⟨m, hm⟩ : ∃ m : Nat, (n % 40).toNat = m := ⟨_, rfl⟩
  have hm40 : m < 40 := by omega
  have hrem : n % 40 = (m : Int) := by omega
  have hB : Hid (Below w.heap.size w (w.alloc (.cells (glC ⟨a, s, q, d⟩) 36))) := by show Below _ _ _; exact one_below _ _
  clear hm
  go_enter Try.func9, Try.ntmps9
  go_wp2_with fail
  refine (gawake_any _).mono ?_
  rintro e w1 ⟨rfl, hb1⟩
  have HK := Lib.hid ((hb1.block w.heap.size (by simp)).trans (blk_new w (.cells (glC ⟨a, s, q, d⟩) 36)))
  have hlt1 : w.heap.size < w1.heap.size := by have := hb1.size; simp at this; omega
  have HB1 : Hid (Below w.heap.size w w1) := below_next hB.out hb1
  clear hb1
  go_wp2_with fail
  go_loopw [7, 8] (fun v i wr => ∃ (k : Nat) (A : Option Addr) (c : Nat), k ≤ m ∧ i = .int .i64 (k : Int) ∧ v = .slice A k c ∧ wr.ownsRow w1.heap.size 36 4 (.slice A k c) k (eqV ⟨a, s, q, d⟩ k) ∧ Below w1.heap.size w1 wr) (fun _ i _ => m - (intOf i).toNat)
  case atStart => exact ⟨0, none, 0, Nat.zero_le _, rfl, rfl, World.ownsRow_nil _ _ _ _, Below.refl _ _⟩
  case round =>
    obtain ⟨k, A, c, hk, rfl, rfl, hown, hbw⟩ := hrel
    have HO := Lib.hid hown
    have HBW := Lib.hid hbw
    have hbk := (hbw.block _ hlt1).trans HK.out
    have c0 : wr.cell? ⟨w.heap.size, 0, none⟩ = some (.int .i64 a) := blk_cell hbk 0 _ rfl
    have c1 : wr.cell? ⟨w.heap.size, 1, none⟩ = some (.int .i64 s) := blk_cell hbk 1 _ rfl
    have c2 : wr.cell? ⟨w.heap.size, 2, none⟩ = some (.int .i64 q) := blk_cell hbk 2 _ rfl
    have c3 : wr.cell? ⟨w.heap.size, 3, none⟩ = some (.int .i64 d) := blk_cell hbk 3 _ rfl
    clear hown hbw hbk
    by_cases hlt : k < m
    · go_wp2_with (at_builtin; refine wpList_append_el rfl _ _ 22 36 rfl i0 _ 4 32 Try.underlying22 hi0 hz0 hz1 hz2 rfl (by omega) rfl (own_below HO.out ((Below.refl _ _).alloc (Nat.le_refl _) _)) rfl (heap_alloc_new _ _) rfl (fun u hu => by simp at hu; rcases hu with rfl | rfl | rfl | rfl <;> rfl) (by unfold maxLen; omega) (by omega) (by have := HBW.out.size; simp; omega) ?_; intro A2 c2 w5 hown2 hb5; have HO5 := Lib.hid hown2; have HB5 := Lib.hid hb5; clear hown2 hb5)
      go_roundw
      case rel => exact ⟨k + 1, A2, _, by omega, by go_num, rfl, by rw [eqV_succ]; exact HO5.out, (HBW.out.alloc HBW.out.size _).trans HB5.out⟩
      case measure => simp [intOf]; omega
    · obtain rfl : k = m := by omega
      obtain ⟨l, hl⟩ : ∃ l, eqL ⟨a, s, q, d⟩ k = l := ⟨_, rfl⟩
      have hlen : l.length = k := by rw [← hl]; exact eqL_len _ _
      have hat : ∀ j, j < l.length → wdAt l j = a ∧ stAt l j = s ∧ shAt l j = q ∧ odAt l j = d := fun j hj => by rw [← hl]; exact eqL_at _ (by omega)
      have HG : Hid (Gls wr wr.heap.size A l) := by show Gls _ _ _ _; rw [← hl]; exact eqL_gls HO.out
      have HAT := Lib.hid hat
      have HM : Hid (l.length ≤ lenMax) := by show _ ≤ _; unfold lenMax; omega
      have HBR : Hid (Below w.heap.size w wr) := below_next HB1.out HBW.out
      clear hl hat hlt
      subst hlen
      by_cases hok : VG l ∧ rngW wd
      · have HOK := Lib.hid hok
        go_wp2_with fail
        refine (right_any (r := true) _ _ l _ _ (yes_iff HOK.out) HM.out HG.out).mono ?_
        rintro e w2 ⟨rfl, hb2⟩
        have HB2 := Lib.hid (below_next HBW.out hb2)
        have HR2 : Hid (Below w.heap.size w w2) := below_next HBR.out hb2
        have HG2 : Hid (Gls w2 w2.heap.size A l) := HG.out.next hb2
        have hbk := (HB2.out.block _ hlt1).trans HK.out
        have c1 : w2.cell? ⟨w.heap.size, 1, none⟩ = some (.int .i64 s) := blk_cell hbk 1 _ rfl
        have c2 : w2.cell? ⟨w.heap.size, 2, none⟩ = some (.int .i64 q) := blk_cell hbk 2 _ rfl
        clear hbk hb2 c0 c3
        by_cases hs0 : s = 0
        · have e1 : (s == 0) = true := by simp [hs0]
          go_wp2
          go_ret
          exact ⟨rfl, HR2.out⟩
        · have e1 : (s == 0) = false := by simp [hs0]
          by_cases hq0 : q = 0
          · have e2 : (q == 0) = true := by simp [hq0]
            go_wp2
            go_ret
            exact ⟨rfl, HR2.out⟩
          · have e2 : (q == 0) = false := by simp [hq0]
            obtain ⟨f, hf⟩ : ∃ f, setV l (wd - natV l) = f := ⟨_, rfl⟩
            obtain ⟨r, hr⟩ : ∃ r, restV l (wd - natV l) = r := ⟨_, rfl⟩
            have hei := e_in hok.1 hok.2
            have HFB : Hid (∀ j, j < l.length → -2148532223 ≤ f j ∧ f j ≤ 2148532223) := fun j hj => by rw [← hf]; exact setV_in HOK.out.1 hei.1 hei.2 hj
            have HEQ : Hid (∀ i j, i < l.length → j < l.length → -1 ≤ f i - f j ∧ f i - f j ≤ 1) := fun i j hi hj => by rw [← hf]; exact equal_law HOK.out.1 HAT.out _ hi hj
            have HFR := Lib.hid (And.intro hf hr)
            clear hf hr hok hei
            go_wp2_with fail
            refine (gset_ok _ _ l _ _ HOK.out.1 HOK.out.2 HFR.out.1 HFR.out.2 rfl HG2.out).mono ?_
            rintro e w3 ⟨⟨A3, c3, rfl, hI3⟩, hb3⟩
            have HI3 := Lib.hid hI3
            have HR3 := Lib.hid (below_next HR2.out hb3)
            clear hb3 hI3 c1 c2
            go_wp2_with fail
            go_loopw [12] (fun v wr => ∃ i : Nat, i ≤ l.length ∧ v = .int .i64 (i : Int) ∧ Below w3.heap.size w3 wr) (fun v _ => l.length - (intOf v).toNat)
            case atStart => exact ⟨0, Nat.zero_le _, rfl, Below.refl _ _⟩
            case round =>
              obtain ⟨i, hi, rfl, hbx⟩ := hrel
              have HBX := Lib.hid hbx
              clear hbx
              by_cases hlt : i < l.length
              · obtain ⟨b, off, rfl, hB, hc⟩ := HI3.out (by rw [mapN_len]; omega)
                have d0 := (HBX.out.cell (p := ⟨b, off + i, none⟩) hB).trans (hc i (by rw [mapN_len]; exact hlt))
                rw [mapN_at f hlt] at d0
                have d1 := (HBX.out.cell (p := ⟨b, off + 0, none⟩) hB).trans (hc 0 (by rw [mapN_len]; omega))
                rw [mapN_at f (by omega)] at d1
                rw [Nat.add_zero] at d1
                have h1 := HEQ.out i 0 hlt (by omega)
                have h2 := HFB.out i hlt
                have h3 := HFB.out 0 (by omega)
                obtain ⟨y, hy⟩ : ∃ y, f i = y := ⟨_, rfl⟩
                obtain ⟨x, hx⟩ : ∃ x, f 0 = x := ⟨_, rfl⟩
                rw [hy] at d0 h1 h2
                rw [hx] at d1 h1 h3
                obtain ⟨z, hz⟩ : ∃ z, y - x = z := ⟨_, rfl⟩
                have s1 : IntKind.i64.wrap (y - x) = z := by rw [IntWalk.i64_in _ (by omega)]; exact hz
                have hz1 : decide (z < -1) = false := decide_eq_false (by omega)
                have hz2 : decide (1 < z) = false := decide_eq_false (by omega)
                have hl0 : 0 < l.length := by omega
                clear hz h1 h2 h3 hy hx hc
                go_wp2_with fail
                go_quiet (fail)
                go_wp2_with fail
                go_roundw
                case rel => exact ⟨i + 1, by omega, by go_num, below_drewN HBX.out nq⟩
                case measure => simp [intOf]; omega
              · obtain rfl : i = l.length := by omega
                go_wp2
                go_ret
                exact ⟨rfl, below_next HR3.out HBX.out⟩
      · have HOK := Lib.hid hok
        go_wp2_with fail
        refine (right_any (r := false) _ _ l _ _ (no_iff HOK.out) HM.out HG.out).mono ?_
        rintro e w2 ⟨rfl, hb2⟩
        go_wp2
        go_ret
        exact ⟨rfl, below_next HBR.out hb2⟩
end Go.Proofs.Ytnhplbhjbpdcaaa
