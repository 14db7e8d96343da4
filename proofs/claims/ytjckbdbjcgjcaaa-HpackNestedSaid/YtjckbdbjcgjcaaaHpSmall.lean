/- The law's small: the walk. Printed by gen_small.py. -/
import Derived.Test.YtjckbdbjcgjcaaaHpAwake
namespace Go.Proofs.Ytjckbdbjcgjcaaa
open Go.RowKit
def smallB (t : Bx) : Prop := ((t.w ≤ 1048576 ∧ t.h ≤ 1048576 ∧ t.d ≤ 1048576 ∧ t.x ≤ 1048576 ∧ t.y ≤ 1048576) ∧ (-1048576 ≤ t.w ∧ -1048576 ≤ t.h ∧ -1048576 ≤ t.d ∧ -1048576 ≤ t.x ∧ -1048576 ≤ t.y)) ∧ validB t ∧ nestB t ≤ 90
def smallL (l : List Bx) : Prop := ∀ i, i < l.length → smallB (kidAt l i)
theorem min_if (a b : Int) : min a b = if b < a then b else a := by
  split <;> omega
theorem max5 {a b c d e m1 m2 m3 m4 : Int} (h1 : (if a < b then b else a) = m1) (h2 : (if m1 < c then c else m1) = m2) (h3 : (if m2 < d then d else m2) = m3) (h4 : (if m3 < e then e else m3) = m4) (K : Int) : m4 ≤ K ↔ a ≤ K ∧ b ≤ K ∧ c ≤ K ∧ d ≤ K ∧ e ≤ K := by
  rw [← max_if] at h1 h2 h3 h4
  omega
theorem min5 {a b c d e m1 m2 m3 m4 : Int} (h1 : (if b < a then b else a) = m1) (h2 : (if c < m1 then c else m1) = m2) (h3 : (if d < m2 then d else m2) = m3) (h4 : (if e < m3 then e else m3) = m4) (K : Int) : K ≤ m4 ↔ K ≤ a ∧ K ≤ b ∧ K ≤ c ∧ K ≤ d ∧ K ≤ e := by
  rw [← min_if] at h1 h2 h3 h4
  omega
/-- A plain load of this type comes up. -/
theorem at_load0 {P : Program} {ops : Array Oper} {rest : List Oper} {a : Act} {w : World} {Q : Exit → Act → World → Prop} {dst : Option Tmp} {p : Operand} {oty : TypeId} {pos : String} {af : Array Edge} (ty : TypeId)
    (h : wpList P ops Q ({ dst := dst, op := .load ty p, type := oty, pos := pos, after := af, guard := none } :: rest) a w) : wpList P ops Q ({ dst := dst, op := .load ty p, type := oty, pos := pos, after := af, guard := none } :: rest) a w := h
theorem run_max5 (P : Program) (ts : Array TypeId) (ty : TypeId) (a b c d e : Int) {m1 m2 m3 m4 : Int} (h1 : (if a < b then b else a) = m1) (h2 : (if m1 < c then c else m1) = m2) (h3 : (if m2 < d then d else m2) = m3) (h4 : (if m3 < e then e else m3) = m4) (W : World) :
    (Builtin.max_ ts ty #[.int .i64 a, .int .i64 b, .int .i64 c, .int .i64 d, .int .i64 e]).run P W = .ok (.int .i64 m4) W := by
  subst h1 h2 h3 h4
  simp [Builtin.max_, Builtin.max2, Sem.run_pure, List.foldlM]
theorem run_min5 (P : Program) (ts : Array TypeId) (ty : TypeId) (a b c d e : Int) {m1 m2 m3 m4 : Int} (h1 : (if b < a then b else a) = m1) (h2 : (if c < m1 then c else m1) = m2) (h3 : (if d < m2 then d else m2) = m3) (h4 : (if e < m3 then e else m3) = m4) (W : World) :
    (Builtin.min_ ts ty #[.int .i64 a, .int .i64 b, .int .i64 c, .int .i64 d, .int .i64 e]).run P W = .ok (.int .i64 m4) W := by
  subst h1 h2 h3 h4
  simp [Builtin.min_, Builtin.min2, Sem.run_pure, List.foldlM]
set_option maxRecDepth 100000 in
set_option maxHeartbeats 1500000 in
theorem small_any {v : Bool} (A : Option Addr) (l : List Bx) (c : Nat) (w : World) (hv : v = true ↔ smallL l) (hc : cntL l ≤ 1000) (hK : Kids w 0 w.heap.size A l) :
    Calls Try.prog 15 #[.slice A l.length c] w fun e w' => e = .returned (.bool v) ∧ Below w.heap.size w w' := by
  obtain ⟨i1, hi1, hy0, hy1, hy2⟩ := info_parts infoBox
  have HCN := Lib.hid hc
  have hl : l.length ≤ 1000 := by have := cnt_len l; omega
  have HK := Lib.hid hK
  have HV := Lib.hid hv
  clear hc hK hv
  go_enter Try.func15, Try.ntmps15
  go_wp2_with fail
  go_loopw [3] (fun q wr => ∃ i : Nat, i ≤ l.length ∧ q = .int .i64 (i : Int) ∧ (∀ k, k < i → smallB (kidAt l k)) ∧ Below w.heap.size w wr) (fun q _ => l.length - (intOf q).toNat)
  case atStart => exact ⟨0, Nat.zero_le _, rfl, fun k hk => absurd hk (Nat.not_lt_zero _), Below.refl _ _⟩
  case round =>
    obtain ⟨i, hi, rfl, hall, hbw⟩ := hrel
    have HALL := Lib.hid hall
    have HB := Lib.hid hbw
    clear hall hbw
    by_cases hlt : i < l.length
    · obtain ⟨kb, ko, A1, c1, A2, c2, rfl, _, hkb, hat, hk1, hi1', hl1⟩ := HK.out.at hlt
      have HC0 : Hid (∀ j, j < 11 → wr.cell? ⟨kb, ko + i * 11 + j, none⟩ = (bxA (kidAt l i) A1 c1 A2 c2)[j]?) := fun j hj => (HB.out.cell (p := ⟨kb, ko + i * 11 + j, none⟩) hkb).trans (hat j hj)
      have HKI : Hid (Kids wr 0 wr.heap.size A1 (kidAt l i).kids ∧ Ints wr 0 wr.heap.size A2 (kidAt l i).src ∧ lens (kidAt l i) ∧ cntB (kidAt l i) ≤ 1000) := ⟨hk1.next HB.out, hi1'.next HB.out, hl1, by have := cnt_kid l hlt; have := HCN.out; omega⟩
      have HNO : Hid (v = true → smallB (kidAt l i)) := fun e => HV.out.1 e i hlt
      have HYES : Hid (smallB (kidAt l i) → ∀ k, k < i + 1 → smallB (kidAt l k)) := fun hs k hk => by
        rcases Nat.lt_succ_iff_lt_or_eq.1 hk with h | rfl
        · exact HALL.out k h
        · exact hs
      have HC : Hid (∀ j, j < 11 → wr.cell? ⟨kb, ko + i * 11 + j, none⟩ = (bxA (kidAt l i) A1 c1 A2 c2)[j]?) := HC0.out
      clear hat hk1 hi1' hl1 HC0
      generalize kidAt l i = t at HC HKI HNO HYES
      obtain ⟨a1, ha1⟩ : ∃ a, t.w = a := ⟨_, rfl⟩
      obtain ⟨a2, ha2⟩ : ∃ a, t.h = a := ⟨_, rfl⟩
      obtain ⟨a3, ha3⟩ : ∃ a, t.d = a := ⟨_, rfl⟩
      obtain ⟨a4, ha4⟩ : ∃ a, t.x = a := ⟨_, rfl⟩
      obtain ⟨a5, ha5⟩ : ∃ a, t.y = a := ⟨_, rfl⟩
      have HNM := Lib.hid (And.intro ha1 (And.intro ha2 (And.intro ha3 (And.intro ha4 ha5))))
      clear ha1 ha2 ha3 ha4 ha5
      obtain ⟨m1, hm1⟩ : ∃ m, (if a1 < a2 then a2 else a1) = m := ⟨_, rfl⟩
      obtain ⟨m2, hm2⟩ : ∃ m, (if m1 < a3 then a3 else m1) = m := ⟨_, rfl⟩
      obtain ⟨m3, hm3⟩ : ∃ m, (if m2 < a4 then a4 else m2) = m := ⟨_, rfl⟩
      obtain ⟨m4, hm4⟩ : ∃ m, (if m3 < a5 then a5 else m3) = m := ⟨_, rfl⟩
      obtain ⟨n1, hn1⟩ : ∃ m, (if a2 < a1 then a2 else a1) = m := ⟨_, rfl⟩
      obtain ⟨n2, hn2⟩ : ∃ m, (if a3 < n1 then a3 else n1) = m := ⟨_, rfl⟩
      obtain ⟨n3, hn3⟩ : ∃ m, (if a4 < n2 then a4 else n2) = m := ⟨_, rfl⟩
      obtain ⟨n4, hn4⟩ : ∃ m, (if a5 < n3 then a5 else n3) = m := ⟨_, rfl⟩
      have rmx := run_max5 Try.prog #[3, 3, 3, 3, 3] 3 a1 a2 a3 a4 a5 hm1 hm2 hm3 hm4
      have rmn := run_min5 Try.prog #[3, 3, 3, 3, 3] 3 a1 a2 a3 a4 a5 hn1 hn2 hn3 hn4
      have HMX := Lib.hid (max5 hm1 hm2 hm3 hm4 1048576)
      have HMN := Lib.hid (min5 hn1 hn2 hn3 hn4 (-1048576))
      obtain ⟨W5, hW5⟩ : ∃ W5, wr.alloc (.cells (bxA t A1 c1 A2 c2) 28) = W5 := ⟨_, rfl⟩
      have hb5 : Below wr.heap.size wr W5 := by rw [← hW5]; exact one_below _ _
      have n5 : W5.heap[wr.heap.size]? = some (.cells (bxA t A1 c1 A2 c2) 28 (0, 0)) := by rw [← hW5]; exact blk_new _ _
      have HN5 := Lib.hid n5
      have HB5 := Lib.hid hb5
      obtain ⟨p, hp⟩ : ∃ p, wr.heap.size = p := ⟨_, rfl⟩
      rw [hp] at n5
      have x0 : W5.cell? ⟨p, 0, none⟩ = some (.int .i64 t.k) := by exact blk_cell n5 0 _ rfl
      have x1 : W5.cell? ⟨p, 1, none⟩ = some (.string t.nm) := by exact blk_cell n5 1 _ rfl
      have x2 : W5.cell? ⟨p, 2, none⟩ = some (.int .i64 t.sz) := by exact blk_cell n5 2 _ rfl
      have x3 : W5.cell? ⟨p, 3, none⟩ = some (.int .i64 a1) := by rw [← HNM.out.1]; exact blk_cell n5 3 _ rfl
      have x4 : W5.cell? ⟨p, 4, none⟩ = some (.int .i64 a2) := by rw [← HNM.out.2.1]; exact blk_cell n5 4 _ rfl
      have x5 : W5.cell? ⟨p, 5, none⟩ = some (.int .i64 a3) := by rw [← HNM.out.2.2.1]; exact blk_cell n5 5 _ rfl
      have x6 : W5.cell? ⟨p, 6, none⟩ = some (.int .i64 a4) := by rw [← HNM.out.2.2.2.1]; exact blk_cell n5 6 _ rfl
      have x7 : W5.cell? ⟨p, 7, none⟩ = some (.int .i64 a5) := by rw [← HNM.out.2.2.2.2]; exact blk_cell n5 7 _ rfl
      have x8 : W5.cell? ⟨p, 8, none⟩ = some (.slice A1 t.kids.length c1) := by exact blk_cell n5 8 _ rfl
      have x9 : W5.cell? ⟨p, 9, none⟩ = some (.int .i64 t.of_) := by exact blk_cell n5 9 _ rfl
      have x10 : W5.cell? ⟨p, 10, none⟩ = some (.slice A2 t.src.length c2) := by exact blk_cell n5 10 _ rfl
      have HN5 := Lib.hid n5
      have HPS : Hid (wr.heap.size = p) := hp
      clear n5 hb5 hm1 hm2 hm3 hm4 hn1 hn2 hn3 hn4
      by_cases q1 : 1048576 < m4
      · go_wp2_with ((with_reducible refine at_load0 28 ?_); go_loud (refine wpList_load_all i1 11 hi1 hy1 _ Try.underlying28 rfl rfl HC.out ?_))
        go_ret
        refine ⟨ret_bool ?_, below_next HB.out HB5.out⟩
        cases v with
        | false => rfl
        | true => have h := (HNO.out rfl).1.1; rw [HNM.out.1, HNM.out.2.1, HNM.out.2.2.1, HNM.out.2.2.2.1, HNM.out.2.2.2.2] at h; have := HMX.out.2 h; omega
      by_cases q2 : n4 < -1048576
      · go_wp2_with ((with_reducible refine at_load0 28 ?_); go_loud (refine wpList_load_all i1 11 hi1 hy1 _ Try.underlying28 rfl rfl HC.out ?_))
        go_ret
        refine ⟨ret_bool ?_, below_next HB.out HB5.out⟩
        cases v with
        | false => rfl
        | true => have h := (HNO.out rfl).1.2; rw [HNM.out.1, HNM.out.2.1, HNM.out.2.2.1, HNM.out.2.2.2.1, HNM.out.2.2.2.2] at h; have := HMN.out.2 h; omega
      have HDIM : Hid ((t.w ≤ 1048576 ∧ t.h ≤ 1048576 ∧ t.d ≤ 1048576 ∧ t.x ≤ 1048576 ∧ t.y ≤ 1048576) ∧ (-1048576 ≤ t.w ∧ -1048576 ≤ t.h ∧ -1048576 ≤ t.d ∧ -1048576 ≤ t.x ∧ -1048576 ≤ t.y)) := by
        show (_ ∧ _ ∧ _ ∧ _ ∧ _) ∧ (_ ∧ _ ∧ _ ∧ _ ∧ _)
        rw [HNM.out.1, HNM.out.2.1, HNM.out.2.2.1, HNM.out.2.2.2.1, HNM.out.2.2.2.2]
        exact ⟨HMX.out.1 (by omega), HMN.out.1 (by omega)⟩
      clear HMX HMN
      obtain ⟨r, hr⟩ := bool_of (validB t)
      have HR := Lib.hid hr
      clear hr
      go_wp2_with ((with_reducible refine at_load0 28 ?_); go_loud (refine wpList_load_all i1 11 hi1 hy1 _ Try.underlying28 rfl rfl HC.out ?_))
      rw [← HNM.out.1, ← HNM.out.2.1, ← HNM.out.2.2.1, ← HNM.out.2.2.2.1, ← HNM.out.2.2.2.2]
      change Calls Try.prog _ #[.agg (bxA t A1 c1 A2 c2)] W5 _
      clear x0 x1 x2 x3 x4 x5 x6 x7 x8 x9 x10
      refine (rValid_any t A1 c1 A2 c2 W5 HKI.out.2.2.1 (by have := HKI.out.2.2.2; omega) HR.out (HKI.out.1.next HB5.out) (HKI.out.2.1.next HB5.out)).mono ?_
      rintro e w6 ⟨rfl, hb6⟩
      have HB6 := Lib.hid (below_next HB5.out hb6)
      have HN6 : Hid (w6.heap[p]? = some (.cells (bxA t A1 c1 A2 c2) 28 (0, 0))) := (hb6.block _ (Array.getElem?_eq_some_iff.1 HN5.out).1).trans HN5.out
      clear hb6
      cases r with
      | false =>
        go_wp2
        go_ret
        refine ⟨ret_bool ?_, below_next HB.out HB6.out⟩
        cases v with
        | false => rfl
        | true => have h := HR.out.2 (HNO.out rfl).2.1; simp at h
      | true =>
        have HVT : Hid (validB t) := HR.out.1 rfl
        clear HR
        have y0 : w6.cell? ⟨p, 0, none⟩ = some (.int .i64 t.k) := blk_cell HN6.out 0 _ rfl
        have y1 : w6.cell? ⟨p, 1, none⟩ = some (.string t.nm) := blk_cell HN6.out 1 _ rfl
        have y2 : w6.cell? ⟨p, 2, none⟩ = some (.int .i64 t.sz) := blk_cell HN6.out 2 _ rfl
        have y3 : w6.cell? ⟨p, 3, none⟩ = some (.int .i64 t.w) := blk_cell HN6.out 3 _ rfl
        have y4 : w6.cell? ⟨p, 4, none⟩ = some (.int .i64 t.h) := blk_cell HN6.out 4 _ rfl
        have y5 : w6.cell? ⟨p, 5, none⟩ = some (.int .i64 t.d) := blk_cell HN6.out 5 _ rfl
        have y6 : w6.cell? ⟨p, 6, none⟩ = some (.int .i64 t.x) := blk_cell HN6.out 6 _ rfl
        have y7 : w6.cell? ⟨p, 7, none⟩ = some (.int .i64 t.y) := blk_cell HN6.out 7 _ rfl
        have y8 : w6.cell? ⟨p, 8, none⟩ = some (.slice A1 t.kids.length c1) := blk_cell HN6.out 8 _ rfl
        have y9 : w6.cell? ⟨p, 9, none⟩ = some (.int .i64 t.of_) := blk_cell HN6.out 9 _ rfl
        have y10 : w6.cell? ⟨p, 10, none⟩ = some (.slice A2 t.src.length c2) := blk_cell HN6.out 10 _ rfl
        go_wp2_with fail
        change Calls Try.prog _ #[.agg (bxA t A1 c1 A2 c2)] w6 _
        clear y0 y1 y2 y3 y4 y5 y6 y7 y8 y9 y10
        refine (rnest_any 1000 t HKI.out.2.2.2 (by omega) A1 c1 A2 c2 w6 (HKI.out.1.next HB6.out)).mono ?_
        rintro e w7 ⟨rfl, hb7⟩
        have HB7 := Lib.hid (below_next HB6.out hb7)
        clear hb7
        obtain ⟨nn, hnn⟩ : ∃ nn, nestB t = nn := ⟨_, rfl⟩
        have HNN := Lib.hid hnn
        rw [hnn]
        clear hnn
        by_cases q3 : nn ≤ 90
        · have q4 : ¬ (90 : Int) < (nn : Int) := by omega
          have HSM : Hid (smallB t) := ⟨HDIM.out, HVT.out, by rw [HNN.out]; exact q3⟩
          go_wp2_with fail
          go_roundw
          case rel => exact ⟨i + 1, by omega, by go_num, HYES.out HSM.out, below_next HB.out HB7.out⟩
          case measure => simp [intOf]; omega
        · have q4 : (90 : Int) < (nn : Int) := by omega
          have HQ := Lib.hid q3
          clear q3
          go_wp2
          go_ret
          refine ⟨ret_bool ?_, below_next HB.out HB7.out⟩
          cases v with
          | false => rfl
          | true => have h := (HNO.out rfl).2.2; rw [HNN.out] at h; have h3 := HQ.out; omega
    · obtain rfl : i = l.length := by omega
      go_wp2
      go_ret
      exact ⟨ret_bool (HV.out.2 HALL.out).symm, HB.out⟩
end Go.Proofs.Ytjckbdbjcgjcaaa
