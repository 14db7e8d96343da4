/- The law on two bases: the walk. Printed by gen_lawbas.py. -/
import Derived.Test.YtonahgdchngabaaPkBase
import Derived.Test.YtonahgdchngabaaOpenU16
namespace Go.Proofs.Ytonahgdchngabaa
open Go.RowKit
theorem take_at {g : List Int} {n k : Nat} (h : k < n) (_hn : n ≤ g.length) : lAt (g.take n) k = lAt g k := by
  unfold lAt
  simp [List.getD, h]
theorem intV_take {g : List Int} {i : Nat} (h : i < g.length) : intV (g.take (i + 1)) = intV (g.take i) ++ [.int .i64 (lAt g i)] := by
  unfold intV lAt
  rw [List.take_succ_eq_append_getElem h, List.map_append]
  simp [List.getD, h]
theorem own_ints {W : World} {base c n : Nat} {A : Option Addr} {l : List Int} (h : W.ownsRow base 3 1 (.slice A n c) n (intV l)) (hn : l.length = n) : Ints W 0 W.heap.size A l := fun h0 => by
  obtain ⟨g, rfl, h1, h2, h3, h4⟩ := own_cell h (by omega)
  exact ⟨g, 0, rfl, Nat.zero_le _, h2, fun k hk => by rw [Nat.zero_add]; exact h4 k _ (intV_in hk)⟩
set_option maxRecDepth 100000 in
set_option maxHeartbeats 4000000 in
theorem vpackBases_walk (A : Option Addr) (l : List Bx) (c : Nat) (B : Option Addr) (gl : List Int) (d : Nat) (z0 z1 : Int) (w : World) (hl : l.length ≤ lenMax) (hg : gl.length ≤ lenMax) (hK : Kids w 0 w.heap.size A l) (hI : U16s w w.heap.size B gl) (hz0 : 0 ≤ z0 ∧ z0 ≤ 255) (hz1 : 0 ≤ z1 ∧ z1 ≤ 255) :
    Calls Try.prog 6 #[.slice A l.length c, .slice B gl.length d, .agg #[.int .u8 z0, .int .u8 z1]] w fun e w' => e = .returned (.bool true) ∧ Below w.heap.size w w' := by
  obtain ⟨i1, hi1, hy0, hy1, hy2⟩ := info_parts infoBox
  obtain ⟨i0, hi0, hx0, hx1, hx2⟩ := info_parts infoI
  have HK := Lib.hid (And.intro hK hI)
  have HL := Lib.hid (And.intro hl hg)
  have hl' : l.length ≤ 9223372036854775807 := hl
  have hg' : gl.length ≤ 9223372036854775807 := hg
  clear hK hI hl hg
  have HD0 := Lib.hid (blk_new w (.cells #[.int .u8 z0, .int .u8 z1] 37))
  have HB0 : Hid (Below w.heap.size w (w.alloc (.cells #[.int .u8 z0, .int .u8 z1] 37))) := one_below _ _
  go_enter Try.func6, Try.ntmps6
  go_wp2_with fail
  refine (vawake_any (w.alloc (.cells #[.int .u8 z0, .int .u8 z1] 37))).mono ?_
  rintro e w1 ⟨rfl, hb1⟩
  have HB1 := Lib.hid (below_next HB0.out hb1)
  have HD1 : Hid (w1.heap[w.heap.size]? = some (.cells #[.int .u8 z0, .int .u8 z1] 37 (0, 0))) := (hb1.block _ (by simp)).trans HD0.out
  clear hb1 HD0 HB0
  by_cases hn0 : l.length = 0
  · have q0 : ((l.length : Int) == 0) = true := by simp [hn0]
    have q1 : ((l.length : Int) = 0) := by omega
    clear hn0
    go_wp2
    go_ret
    exact ⟨rfl, HB1.out⟩
  have q0 : ¬ ((l.length : Int) = 0) := by omega
  have q00 : ((l.length : Int) == 0) = false := by rw [beq_eq_false_iff_ne]; omega
  by_cases hn : l.length ≤ 100
  case neg =>
    go_wp2
    go_ret
    exact ⟨rfl, HB1.out⟩
  obtain ⟨r, hr⟩ : ∃ r, decide (1 + cntL l ≤ 400) = r := ⟨_, rfl⟩
  have HR := Lib.hid hr
  have HN0 : Hid (0 < l.length) := Nat.pos_of_ne_zero hn0
  clear hr hn0
  go_wp2_with fail
  refine (few_any l 400 A c w1 (by omega) HR.out (HK.out.1.next HB1.out)).mono ?_
  rintro e w2 ⟨rfl, hb2⟩
  have HB2 := Lib.hid (below_next HB1.out hb2)
  have HD2 : Hid (w2.heap[w.heap.size]? = some (.cells #[.int .u8 z0, .int .u8 z1] 37 (0, 0))) := (hb2.block _ (Array.getElem?_eq_some_iff.1 HD1.out).1).trans HD1.out
  clear hb2
  cases r with
  | false =>
    go_wp2
    go_ret
    exact ⟨rfl, HB2.out⟩
  | true =>
  have HCN : Hid (cntL l ≤ 1000) := by have := of_decide_eq_true HR.out; show _ ≤ _; omega
  clear HR
  by_cases hgl : l.length ≤ gl.length
  case neg =>
    have q2 : (gl.length : Int) < (l.length : Int) := by omega
    clear hgl
    go_wp2
    go_ret
    exact ⟨rfl, HB2.out⟩
  by_cases hg4 : gl.length ≤ 400
  case neg =>
    have q2 : ¬ (gl.length : Int) < (l.length : Int) := by omega
    have q3 : (400 : Int) < (gl.length : Int) := by omega
    clear hg4
    go_wp2
    go_ret
    exact ⟨rfl, HB2.out⟩
  have q2 : ¬ (gl.length : Int) < (l.length : Int) := by omega
  have q3 : ¬ (400 : Int) < (gl.length : Int) := by omega
  go_wp2_with fail
  clear q2 q3
  go_loopw [7, 8] (fun v q wr => ∃ (i : Nat) (A' : Option Addr) (cx : Nat), i ≤ l.length ∧ q = .int .i64 (i : Int) ∧ v = .slice A' i cx ∧ wr.ownsRow w2.heap.size 3 1 (.slice A' i cx) i (intV (gl.take i)) ∧ (∀ k, k < i → smallB (kidAt l k)) ∧ Below w2.heap.size w2 wr) (fun _ q _ => l.length - (intOf q).toNat)
  case atStart => exact ⟨0, none, 0, Nat.zero_le _, rfl, rfl, ⟨rfl, .inl ⟨rfl, rfl⟩⟩, fun k hk => absurd hk (Nat.not_lt_zero _), Below.refl _ _⟩
  case round =>
    obtain ⟨i, A', cx, hi, rfl, rfl, hown, hall, hbw⟩ := hrel
    have HALL := Lib.hid hall
    have HB := Lib.hid hbw
    have HO := Lib.hid hown
    have HBW : Hid (Below w.heap.size w wr) := below_next HB2.out hbw
    clear hall hbw hown
    by_cases hlt : i < l.length
    · obtain ⟨kb, ko, A1, c1, A2, c2, rfl, _, hkb, hat, hk1, hi1', hl1⟩ := HK.out.1.at hlt
      obtain ⟨gb, go, rfl, hgb, hgc⟩ := HK.out.2 (by omega)
      obtain ⟨hgc, hgz⟩ := hgc i (by omega)
      have HC : Hid (∀ j, j < 11 → wr.cell? ⟨kb, ko + i * 11 + j, none⟩ = (bxA (kidAt l i) A1 c1 A2 c2)[j]?) := fun j hj => (HBW.out.cell (p := ⟨kb, ko + i * 11 + j, none⟩) hkb).trans (hat j hj)
      have HKI : Hid (Kids wr 0 wr.heap.size A1 (kidAt l i).kids ∧ Ints wr 0 wr.heap.size A2 (kidAt l i).src ∧ lens (kidAt l i) ∧ cntB (kidAt l i) ≤ 1000) := ⟨hk1.next HBW.out, hi1'.next HBW.out, hl1, by have := cnt_kid l hlt; have := HCN.out; omega⟩
      have HYES : Hid (smallB (kidAt l i) → ∀ k, k < i + 1 → smallB (kidAt l k)) := fun hs k hk => by
        rcases Nat.lt_succ_iff_lt_or_eq.1 hk with h | rfl
        · exact HALL.out k h
        · exact hs
      obtain ⟨zz, hzz⟩ : ∃ zz, lAt gl i = zz := ⟨_, rfl⟩
      rw [hzz] at hgc hgz
      have HZZ := Lib.hid (And.intro hgc (And.intro hzz hgb))
      have HTK : Hid (intV (gl.take (i + 1)) = intV (gl.take i) ++ [.int .i64 zz]) := by show _ = _; rw [intV_take (by omega), hzz]
      clear hat hk1 hi1' hl1 hgc hzz
      generalize kidAt l i = t at HC HKI HYES
      obtain ⟨a1, ha1⟩ : ∃ a, t.w = a := ⟨_, rfl⟩
      obtain ⟨a2, ha2⟩ : ∃ a, t.h = a := ⟨_, rfl⟩
      obtain ⟨a3, ha3⟩ : ∃ a, t.d = a := ⟨_, rfl⟩
      obtain ⟨a4, ha4⟩ : ∃ a, t.x = a := ⟨_, rfl⟩
      obtain ⟨a5, ha5⟩ : ∃ a, t.y = a := ⟨_, rfl⟩
      have HNM := Lib.hid (And.intro ha1 (And.intro ha2 (And.intro ha3 (And.intro ha4 ha5))))
      clear ha1 ha2 ha3 ha4 ha5
      obtain ⟨W5, hW5⟩ : ∃ W5, wr.alloc (.cells (bxA t A1 c1 A2 c2) 27) = W5 := ⟨_, rfl⟩
      have HB5 : Hid (Below wr.heap.size wr W5) := by rw [← hW5]; exact one_below _ _
      obtain ⟨p, hp⟩ : ∃ p, wr.heap.size = p := ⟨_, rfl⟩
      have HN5 : Hid (W5.heap[p]? = some (.cells (bxA t A1 c1 A2 c2) 27 (0, 0))) := by rw [← hW5, ← hp]; exact blk_new _ _
      have HC5 : Hid (∀ j, j < 11 → W5.cell? ⟨p, 0 + j, none⟩ = (bxA t A1 c1 A2 c2)[j]?) := fun j _ => by rw [Nat.zero_add]; exact cell_of_row _ _ _ _ _ _ HN5.out
      obtain ⟨r, hr⟩ := bool_of (validB t)
      have HR := Lib.hid hr
      clear hr
      go_wp2_with ((with_reducible refine at_load0 27 ?_); go_loud (first | refine wpList_load_all i1 11 hi1 hy1 _ Try.underlying27 rfl rfl HC.out ?_ | refine wpList_load_all i1 11 hi1 hy1 _ Try.underlying27 rfl rfl HC5.out ?_))
      refine (rValid_any t A1 c1 A2 c2 W5 HKI.out.2.2.1 (by have := HKI.out.2.2.2; omega) HR.out (HKI.out.1.next HB5.out) (HKI.out.2.1.next HB5.out)).mono ?_
      rintro e w6 ⟨rfl, hb6⟩
      have HB6 := Lib.hid (below_next HB5.out hb6)
      have HN6 : Hid (w6.heap[p]? = some (.cells (bxA t A1 c1 A2 c2) 27 (0, 0))) := (hb6.block _ (Array.getElem?_eq_some_iff.1 HN5.out).1).trans HN5.out
      clear hb6 HC5
      cases r with
      | false =>
        go_wp2
        go_ret
        exact ⟨rfl, below_next HBW.out HB6.out⟩
      | true =>
      have HVT : Hid (validB t) := HR.out.1 rfl
      clear HR
      have y0 : w6.cell? ⟨p, 0, none⟩ = some (.int .i64 t.k) := by exact blk_cell HN6.out 0 _ rfl
      have y1 : w6.cell? ⟨p, 1, none⟩ = some (.string t.nm) := by exact blk_cell HN6.out 1 _ rfl
      have y2 : w6.cell? ⟨p, 2, none⟩ = some (.int .i64 t.sz) := by exact blk_cell HN6.out 2 _ rfl
      have y3 : w6.cell? ⟨p, 3, none⟩ = some (.int .i64 t.w) := by exact blk_cell HN6.out 3 _ rfl
      have y4 : w6.cell? ⟨p, 4, none⟩ = some (.int .i64 t.h) := by exact blk_cell HN6.out 4 _ rfl
      have y5 : w6.cell? ⟨p, 5, none⟩ = some (.int .i64 t.d) := by exact blk_cell HN6.out 5 _ rfl
      have y6 : w6.cell? ⟨p, 6, none⟩ = some (.int .i64 t.x) := by exact blk_cell HN6.out 6 _ rfl
      have y7 : w6.cell? ⟨p, 7, none⟩ = some (.int .i64 t.y) := by exact blk_cell HN6.out 7 _ rfl
      have y8 : w6.cell? ⟨p, 8, none⟩ = some (.slice A1 t.kids.length c1) := by exact blk_cell HN6.out 8 _ rfl
      have y9 : w6.cell? ⟨p, 9, none⟩ = some (.int .i64 t.of_) := by exact blk_cell HN6.out 9 _ rfl
      have y10 : w6.cell? ⟨p, 10, none⟩ = some (.slice A2 t.src.length c2) := by exact blk_cell HN6.out 10 _ rfl
      go_wp2_with fail
      change Calls Try.prog _ #[.agg (bxA t A1 c1 A2 c2)] w6 _
      clear y0 y1 y2 y3 y4 y5 y6 y7 y8 y9 y10
      refine (rnest_any 1000 t HKI.out.2.2.2 (by omega) A1 c1 A2 c2 w6 (HKI.out.1.next HB6.out)).mono ?_
      rintro e w7 ⟨rfl, hb7⟩
      have HB7 := Lib.hid (below_next HB6.out hb7)
      have HN7 : Hid (w7.heap[p]? = some (.cells (bxA t A1 c1 A2 c2) 27 (0, 0))) := (hb7.block _ (Array.getElem?_eq_some_iff.1 HN6.out).1).trans HN6.out
      clear hb7
      obtain ⟨nn, hnn⟩ : ∃ nn, nestB t = nn := ⟨_, rfl⟩
      have HNN := Lib.hid hnn
      rw [hnn]
      clear hnn
      by_cases q3 : nn ≤ 90
      case neg =>
        have q4 : (90 : Int) < (nn : Int) := by omega
        clear q3
        go_wp2
        go_ret
        exact ⟨rfl, below_next HBW.out HB7.out⟩
      have q4 : ¬ (90 : Int) < (nn : Int) := by omega
      obtain ⟨m1, hm1⟩ : ∃ m, (if a1 < a2 then a2 else a1) = m := ⟨_, rfl⟩
      obtain ⟨m2, hm2⟩ : ∃ m, (if m1 < a3 then a3 else m1) = m := ⟨_, rfl⟩
      obtain ⟨m3, hm3⟩ : ∃ m, (if m2 < a4 then a4 else m2) = m := ⟨_, rfl⟩
      obtain ⟨m4, hm4⟩ : ∃ m, (if m3 < a5 then a5 else m3) = m := ⟨_, rfl⟩
      obtain ⟨n1, hn1⟩ : ∃ m, (if a2 < a1 then a2 else a1) = m := ⟨_, rfl⟩
      obtain ⟨n2, hn2⟩ : ∃ m, (if a3 < n1 then a3 else n1) = m := ⟨_, rfl⟩
      obtain ⟨n3, hn3⟩ : ∃ m, (if a4 < n2 then a4 else n2) = m := ⟨_, rfl⟩
      obtain ⟨n4, hn4⟩ : ∃ m, (if a5 < n3 then a5 else n3) = m := ⟨_, rfl⟩
      have rmx := run_max5 Try.prog #[3, 3, 3, 3, 3] 3 a1 a2 a3 a4 a5 hm1 hm2 hm3 hm4
      have rmn := run_min5 Try.prog #[3, 3, 3, 3, 3] 3 a1 a2 a3 a4 a5 hn1 hn2 hn3 hn4
      have HMX := Lib.hid (max5 hm1 hm2 hm3 hm4 1048576)
      have HMN := Lib.hid (min5 hn1 hn2 hn3 hn4 (-1048576))
      clear hm1 hm2 hm3 hm4 hn1 hn2 hn3 hn4
      have x3 : w7.cell? ⟨p, 3, none⟩ = some (.int .i64 a1) := by rw [← HNM.out.1]; exact blk_cell HN7.out 3 _ rfl
      have x4 : w7.cell? ⟨p, 4, none⟩ = some (.int .i64 a2) := by rw [← HNM.out.2.1]; exact blk_cell HN7.out 4 _ rfl
      have x5 : w7.cell? ⟨p, 5, none⟩ = some (.int .i64 a3) := by rw [← HNM.out.2.2.1]; exact blk_cell HN7.out 5 _ rfl
      have x6 : w7.cell? ⟨p, 6, none⟩ = some (.int .i64 a4) := by rw [← HNM.out.2.2.2.1]; exact blk_cell HN7.out 6 _ rfl
      have x7 : w7.cell? ⟨p, 7, none⟩ = some (.int .i64 a5) := by rw [← HNM.out.2.2.2.2]; exact blk_cell HN7.out 7 _ rfl
      by_cases q5 : 1048576 < m4
      · go_wp2
        go_ret
        exact ⟨rfl, below_next HBW.out HB7.out⟩
      by_cases q6 : n4 < -1048576
      · go_wp2
        go_ret
        exact ⟨rfl, below_next HBW.out HB7.out⟩
      have HSM : Hid (smallB t) := by
        show ((_ ∧ _ ∧ _ ∧ _ ∧ _) ∧ (_ ∧ _ ∧ _ ∧ _ ∧ _)) ∧ _ ∧ _
        rw [HNM.out.1, HNM.out.2.1, HNM.out.2.2.1, HNM.out.2.2.2.1, HNM.out.2.2.2.2]
        exact ⟨⟨HMX.out.1 (by omega), HMN.out.1 (by omega)⟩, HVT.out, by rw [HNN.out]; exact q3⟩
      have sz : IntKind.i64.wrap zz = zz := IntWalk.i64_in _ (by omega)
      have yg : w7.cell? ⟨gb, go + i, none⟩ = some (.int .u16 zz) := ((below_next HBW.out HB7.out).cell (p := ⟨gb, go + i, none⟩) HZZ.out.2.2).trans HZZ.out.1
      have hix : i < gl.length := by omega
      have HO7 : Hid ((w7.alloc (.cells #[.int .i64 zz] 3)).ownsRow w2.heap.size 3 1 (.slice A' i cx) i (intV (gl.take i))) := own_below (own_below HO.out HB7.out) (one_below _ _)
      have HSZ7 : Hid (w2.heap.size ≤ (w7.alloc (.cells #[.int .i64 zz] 3)).heap.size) := by
        show _ ≤ _
        have := (below_next HB.out HB7.out).size
        rw [World.size_alloc]; omega
      clear HMX HMN
      go_wp2_with (at_builtin; refine wpList_append_el rfl _ _ 23 3 rfl i0 _ 1 8 Try.underlying23 hi0 hx0 hx1 hx2 rfl (by omega) rfl HO7.out rfl (blk_new _ _) rfl (fun u hu => by simp at hu; subst hu; rfl) (by unfold maxLen; omega) (by omega) HSZ7.out ?_; intro A6 c6 w8 hown8 hb8; have HO8 := Lib.hid hown8; have HB8 := Lib.hid hb8; clear hown8 hb8)
      have HO9 : Hid (w8.ownsRow w2.heap.size 3 1 (.slice A6 (i + 1) c6) (i + 1) (intV (gl.take (i + 1)))) := by rw [HTK.out]; exact HO8.out
      have HBE : Hid (Below w2.heap.size w2 w8) := ((below_next HB.out HB7.out).alloc (below_next HB.out HB7.out).size _).trans HB8.out
      go_roundw
      case rel => exact ⟨_, _, _, ⟨i + 1, by omega, by go_num, A6, c6, rfl, HO9.out, HYES.out HSM.out, HBE.out⟩, rfl, rfl, rfl⟩
      case measure => simp [intOf]; omega
    · obtain rfl : i = l.length := by omega
      have HS : Hid (smallL l) := HALL.out
      have hgt : (gl.take l.length).length = l.length := by rw [List.length_take]; omega
      obtain ⟨g, hge⟩ : ∃ g, gl.take l.length = g := ⟨_, rfl⟩
      have HGU : Hid (gapsU l g) := by
        rw [← hge]
        refine ⟨hgt, fun k hk => ?_⟩
        rw [take_at (by omega) hgl]
        obtain ⟨gb, go, _, _, hgc⟩ := HK.out.2 (by omega)
        exact (hgc k (by omega)).2
      have HIG : Hid (Ints wr 0 wr.heap.size A' g) := by
        have := own_ints HO.out hgt
        rwa [hge] at this
      clear hgt hge HALL
      have hc0 : Hid (0 < l.length) := HN0.out
      obtain ⟨n, hnn⟩ : ∃ n, l.length = n := ⟨_, rfl⟩
      have hmod : ∀ z : Int, 0 ≤ z → ∃ b : Nat, b < l.length ∧ z.tmod (l.length : Int) = (b : Int) ∧ IntKind.i64.wrap (z.tmod (l.length : Int)) = (b : Int) := fun z hz => by
        have hp := HN0.out
        obtain ⟨zn, rfl⟩ : ∃ zn : Nat, z = (zn : Int) := ⟨z.toNat, by omega⟩
        have h1 : ((zn : Int)).tmod (l.length : Int) = ((zn % l.length : Nat) : Int) := rfl
        have h2 := Nat.mod_lt zn hp
        exact ⟨zn % l.length, h2, h1, by rw [h1]; exact IntWalk.i64_in _ (by omega)⟩
      obtain ⟨b0, hb0, hm0, hw0⟩ := hmod z0 hz0.1
      obtain ⟨b1, hb1, hm1, hw1⟩ := hmod z1 hz1.1
      clear hmod hnn
      have HDR : Hid (wr.heap[w.heap.size]? = some (.cells #[.int .u8 z0, .int .u8 z1] 37 (0, 0))) := (HB.out.block _ (Array.getElem?_eq_some_iff.1 HD2.out).1).trans HD2.out
      have e0 : wr.cell? ⟨w.heap.size, 0, none⟩ = some (.int .u8 z0) := blk_cell HDR.out 0 _ rfl
      have u0 : IntKind.i64.wrap z0 = z0 := IntWalk.i64_in _ (by omega)
      have u1 : IntKind.i64.wrap z1 = z1 := IntWalk.i64_in _ (by omega)
      have HCO : Hid (∀ (b : Nat) (W : World), b < l.length → Below wr.heap.size wr W → Calls Try.prog 10 #[.slice A l.length c, .slice A' l.length cx, .int .i64 (b : Int)] W fun e w' => (∃ R A2 c2, e = .returned (.tuple #[.agg (bxA R A2 c2 none 0), .int .i64 0]) ∧ R.w = maxR l l.length ∧ R.h = colY l g b 0 + (kidAt l 0).h + lAt g 0 ∧ R.d = (kidAt l (l.length - 1)).d - colY l g b (l.length - 1) ∧ R.kids.length = l.length ∧ Kids w' 0 w'.heap.size A2 (movedY l (colY l g b))) ∧ Below W.heap.size W w') := fun b W hb hW => by
        have h := column_any A l c A' g cx (b : Int) W HCN.out (by rw [HGU.out.1]; unfold lenMax; omega) (HK.out.1.next (below_next HBW.out hW)) (HIG.out.next hW)
        rw [HGU.out.1] at h
        refine h.mono ?_
        rintro e w' ⟨⟨A2, c2, he, hk⟩, hbb⟩
        obtain ⟨h1, h2⟩ := base_all HS.out HGU.out hn HCN.out hb
        rw [h1, h2] at he
        rw [h2] at hk
        exact ⟨⟨_, A2, c2, he, rfl, rfl, rfl, movedY_len _ _, hk⟩, hbb⟩
      have HZM := Lib.hid (And.intro hz0 hz1)
      have HDZ := Lib.hid hm0
      go_wp2_with fail
      refine (HCO.out b0 wr hb0 (Below.refl _ _)).mono ?_
      rintro e v5 ⟨⟨R0, A5, c5, rfl, hw5, hh5, hd5, hl5, hk5⟩, hb5⟩
      obtain ⟨v6, hv6⟩ : ∃ v6, v5.alloc (.cells (bxA R0 A5 c5 none 0) 27) = v6 := ⟨_, rfl⟩
      obtain ⟨p5, hp5⟩ : ∃ p, v5.heap.size = p := ⟨_, rfl⟩
      have HB6 : Hid (Below wr.heap.size wr v6) := by rw [← hv6]; exact below_next hb5 (one_below _ _)
      have HN6 : Hid (v6.heap[p5]? = some (.cells (bxA R0 A5 c5 none 0) 27 (0, 0))) := by rw [← hv6, ← hp5]; exact blk_new _ _
      have HK6 : Hid (Kids v6 0 v6.heap.size A5 (movedY l (colY l g b0))) := by rw [← hv6]; exact hk5.next (one_below _ _)
      have HR5 := Lib.hid (And.intro hw5 (And.intro hh5 (And.intro hd5 hl5)))
      have HD6 : Hid (v6.heap[w.heap.size]? = some (.cells #[.int .u8 z0, .int .u8 z1] 37 (0, 0))) := (HB6.out.block _ (Array.getElem?_eq_some_iff.1 HDR.out).1).trans HDR.out
      have e1 : v6.cell? ⟨w.heap.size, 1, none⟩ = some (.int .u8 z1) := blk_cell HD6.out 1 _ rfl
      clear hw5 hh5 hd5 hl5 hk5 hb5 e0
      go_wp2_with fail
      refine (HCO.out b1 v6 hb1 HB6.out).mono ?_
      rintro e v7 ⟨⟨R1, A7, c7, rfl, hw7, hh7, hd7, hl7, hk7⟩, hb7⟩
      obtain ⟨v8, hv8⟩ : ∃ v8, v7.alloc (.cells (bxA R1 A7 c7 none 0) 27) = v8 := ⟨_, rfl⟩
      obtain ⟨p7, hp7⟩ : ∃ p, v7.heap.size = p := ⟨_, rfl⟩
      have HB8 : Hid (Below v6.heap.size v6 v8) := by rw [← hv8]; exact below_next hb7 (one_below _ _)
      have HN8 : Hid (v8.heap[p7]? = some (.cells (bxA R1 A7 c7 none 0) 27 (0, 0))) := by rw [← hv8, ← hp7]; exact blk_new _ _
      have HK8 : Hid (Kids v8 0 v8.heap.size A7 (movedY l (colY l g b1))) := by rw [← hv8]; exact hk7.next (one_below _ _)
      have HN6' : Hid (v8.heap[p5]? = some (.cells (bxA R0 A5 c5 none 0) 27 (0, 0))) := (HB8.out.block _ (Array.getElem?_eq_some_iff.1 HN6.out).1).trans HN6.out
      have HK6' : Hid (Kids v8 0 v8.heap.size A5 (movedY l (colY l g b0))) := HK6.out.next HB8.out
      have HR7 := Lib.hid (And.intro hw7 (And.intro hh7 (And.intro hd7 hl7)))
      have HD8 : Hid (v8.heap[w.heap.size]? = some (.cells #[.int .u8 z0, .int .u8 z1] 37 (0, 0))) := (HB8.out.block _ (Array.getElem?_eq_some_iff.1 HD6.out).1).trans HD6.out
      have HBV : Hid (Below w.heap.size w v8) := below_next HBW.out (below_next HB6.out HB8.out)
      clear hw7 hh7 hd7 hl7 hk7 hb7 e1
      -- the numbers
      obtain ⟨D, hD⟩ : ∃ D, downI l g b1 - downI l g b0 = D := ⟨_, rfl⟩
      have hcy : ∀ b i, b < l.length → i < l.length → -432537400 ≤ colY l g b i ∧ colY l g b i ≤ 432537400 := fun b i hb hi => colY_small HS.out HGU.out hn hb hi
      have hdiff : ∀ i, colY l g b1 i - colY l g b0 i = D := fun i => by unfold colY; omega
      have hDb : -865074800 ≤ D ∧ D ≤ 865074800 := by have h1 := hcy b1 0 hb1 HN0.out; have h2 := hcy b0 0 hb0 HN0.out; have h3 := hdiff 0; omega
      obtain ⟨H0, hH0⟩ : ∃ H, R0.h = H := ⟨_, rfl⟩
      obtain ⟨H1, hH1⟩ : ∃ H, R1.h = H := ⟨_, rfl⟩
      obtain ⟨D0, hD0⟩ : ∃ H, R0.d = H := ⟨_, rfl⟩
      obtain ⟨D1, hD1⟩ : ∃ H, R1.d = H := ⟨_, rfl⟩
      obtain ⟨W0, hW0⟩ : ∃ H, R0.w = H := ⟨_, rfl⟩
      have hW1 : R1.w = W0 := by rw [HR7.out.1, ← hW0, HR5.out.1]
      have sH : IntKind.i64.wrap (H1 - H0) = D := by
        have h1 := HR5.out.2.1; have h2 := HR7.out.2.1; have h3 := hdiff 0
        rw [hH0] at h1; rw [hH1] at h2
        rw [show H1 - H0 = D by omega]
        exact IntWalk.i64_in _ (by omega)
      have sD : IntKind.i64.wrap (D0 - D1) = D := by
        have h1 := HR5.out.2.2.1; have h2 := HR7.out.2.2.1; have h3 := hdiff (l.length - 1)
        rw [hD0] at h1; rw [hD1] at h2
        rw [show D0 - D1 = D by omega]
        exact IntWalk.i64_in _ (by omega)
      have HX : Hid (∀ W : World, Below v8.heap.size v8 W → (W.cell? ⟨p5, 8, none⟩ = some (.slice A5 l.length c5) ∧ W.cell? ⟨p5, 3, none⟩ = some (.int .i64 W0) ∧ W.cell? ⟨p5, 4, none⟩ = some (.int .i64 H0) ∧ W.cell? ⟨p5, 5, none⟩ = some (.int .i64 D0)) ∧ (W.cell? ⟨p7, 8, none⟩ = some (.slice A7 l.length c7) ∧ W.cell? ⟨p7, 3, none⟩ = some (.int .i64 W0) ∧ W.cell? ⟨p7, 4, none⟩ = some (.int .i64 H1) ∧ W.cell? ⟨p7, 5, none⟩ = some (.int .i64 D1)) ∧ W.cell? ⟨w.heap.size, 0, none⟩ = some (.int .u8 z0)) := fun W hW => by
        have g5 := (hW.block _ (Array.getElem?_eq_some_iff.1 HN6'.out).1).trans HN6'.out
        have g7 := (hW.block _ (Array.getElem?_eq_some_iff.1 HN8.out).1).trans HN8.out
        have gd := (hW.block _ (Array.getElem?_eq_some_iff.1 HD8.out).1).trans HD8.out
        refine ⟨⟨by rw [← HR5.out.2.2.2]; exact blk_cell g5 8 _ rfl, by rw [← hW0]; exact blk_cell g5 3 _ rfl, by rw [← hH0]; exact blk_cell g5 4 _ rfl, by rw [← hD0]; exact blk_cell g5 5 _ rfl⟩, ⟨by rw [← HR7.out.2.2.2]; exact blk_cell g7 8 _ rfl, by rw [← hW1]; exact blk_cell g7 3 _ rfl, by rw [← hH1]; exact blk_cell g7 4 _ rfl, by rw [← hD1]; exact blk_cell g7 5 _ rfl⟩, blk_cell gd 0 _ rfl⟩
      have HDI := Lib.hid hdiff
      have HDB := Lib.hid hDb
      obtain ⟨⟨x1, x2, x3, x4⟩, ⟨x5, x6, x7, x8⟩, x9⟩ := HX.out v8 (Below.refl _ _)
      obtain ⟨k5, o5, G1, n1, G2, n2, rfl, _, hk5, hat5, -⟩ := HK6'.out.at (i := 0) (by rw [movedY_len]; exact HN0.out)
      obtain ⟨k7, o7, G3, n3, G4, n4, rfl, _, hk7, hat7, -⟩ := HK8.out.at (i := 0) (by rw [movedY_len]; exact HN0.out)
      rw [movedY_at HN0.out] at hat5 hat7
      obtain ⟨f0, hf0⟩ : ∃ f, colY l g b0 0 = f := ⟨_, rfl⟩
      obtain ⟨f1, hf1⟩ : ∃ f, colY l g b1 0 = f := ⟨_, rfl⟩
      have y5 : v8.cell? ⟨k5, o5 + 7, none⟩ = some (.int .i64 f0) := by rw [← hf0]; exact hat5 7 (by omega)
      have y7 : v8.cell? ⟨k7, o7 + 7, none⟩ = some (.int .i64 f1) := by rw [← hf1]; exact hat7 7 (by omega)
      have sf : IntKind.i64.wrap (f1 - f0) = D := by rw [← hf0, ← hf1, hdiff 0]; exact IntWalk.i64_in _ (by omega)
      have HSH := Lib.hid (And.intro sH sD)
      have hn0 : 0 < l.length := HN0.out
      clear hdiff hDb hH0 hH1 hD0 hD1 hW0 hW1 hcy hD hat5 hat7 hf0 hf1 hk5 hk7 sH sD
      go_wp2_with fail
      go_quiet (fail)
      go_wp2_with fail
      clear x1 x2 x3 x4 x5 x6 x7 x8 x9 y5 y7 sf
      go_loopw [15] (fun q wy => ∃ k : Nat, k ≤ l.length ∧ q = .int .i64 (k : Int) ∧ Below v8.heap.size v8 wy) (fun q _ => l.length - (intOf q).toNat)
      case atStart => exact ⟨0, Nat.zero_le _, rfl, below_drewN (Below.refl _ _) _⟩
      case round =>
        rename World => wy
        obtain ⟨k, hk, rfl, hby⟩ := hrel
        have HBY := Lib.hid hby
        obtain ⟨⟨x1, x2, x3, x4⟩, ⟨x5, x6, x7, x8⟩, x9⟩ := HX.out wy hby
        clear hby
        by_cases hkt : k < l.length
        · obtain ⟨k5', o5', G1, n1, G2, n2, e5, _, hk5, hat5, -⟩ := HK6'.out.at (i := k) (by rw [movedY_len]; exact hkt)
          obtain ⟨k7', o7', G3, n3, G4, n4, e7, _, hk7, hat7, -⟩ := HK8.out.at (i := k) (by rw [movedY_len]; exact hkt)
          injection e5 with e5; injection e5 with e5a e5b
          injection e7 with e7; injection e7 with e7a e7b
          subst e5a e5b e7a e7b
          rw [movedY_at hkt] at hat5 hat7
          obtain ⟨f0, hf0⟩ : ∃ f, colY l g b0 k = f := ⟨_, rfl⟩
          obtain ⟨f1, hf1⟩ : ∃ f, colY l g b1 k = f := ⟨_, rfl⟩
          have y5 : wy.cell? ⟨k5, o5 + k * 11 + 7, none⟩ = some (.int .i64 f0) := by rw [← hf0]; exact (HBY.out.cell (p := ⟨k5, o5 + k * 11 + 7, none⟩) hk5).trans (hat5 7 (by omega))
          have y7 : wy.cell? ⟨k7, o7 + k * 11 + 7, none⟩ = some (.int .i64 f1) := by rw [← hf1]; exact (HBY.out.cell (p := ⟨k7, o7 + k * 11 + 7, none⟩) hk7).trans (hat7 7 (by omega))
          have sf : IntKind.i64.wrap (f1 - f0) = D := by rw [← hf0, ← hf1, HDI.out k]; exact IntWalk.i64_in _ (by have := HDB.out; omega)
          clear hat5 hat7 hf0 hf1 x2 x3 x4 x6 x7 x8 x9 hk5 hk7
          go_wp2_with fail
          go_quiet (fail)
          go_wp2_with fail
          go_roundw
          case rel => exact ⟨k + 1, by omega, by go_num, below_drewN HBY.out _⟩
          case measure => simp [intOf]; omega
        · obtain rfl : k = l.length := by omega
          obtain ⟨k5', o5', G1, n1, G2, n2, e5, _, hk5, hat5, -⟩ := HK6'.out.at (i := b0) (by rw [movedY_len]; exact hb0)
          injection e5 with e5; injection e5 with e5a e5b
          subst e5a e5b
          rw [movedY_at hb0] at hat5
          have y5 : wy.cell? ⟨k5, o5 + b0 * 11 + 7, none⟩ = some (.int .i64 0) := by
            have h1 := (HBY.out.cell (p := ⟨k5, o5 + b0 * 11 + 7, none⟩) hk5).trans (hat5 7 (by omega))
            have h2 : colY l g b0 b0 = 0 := by unfold colY; omega
            rw [h2] at h1
            exact h1
          obtain ⟨sH, sD⟩ := HSH.out
          have HFIN := Lib.hid (below_next HBV.out HBY.out)
          clear hat5 hk5
          go_wp2_with fail
          go_quiet (fail)
          go_wp2
          go_ret
          exact ⟨rfl, below_drewN HFIN.out _⟩
end Go.Proofs.Ytonahgdchngabaa
