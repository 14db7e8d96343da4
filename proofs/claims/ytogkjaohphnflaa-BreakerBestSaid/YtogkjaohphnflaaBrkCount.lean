/- paragraph.counted: the best tails from each piece on with each number of lines. -/
import Derived.Test.YtogkjaohphnflaaBrkBest
import Derived.Test.YtogkjaohphnflaaBrkAdd
import Derived.Deep.RegionHeld3
namespace Go.Proofs.Ytogkjaohphnflaa
open Go.RowKit
theorem infoR : (Try.prog.info? 47).map (fun i => (i.zero, i.size, i.bytes)) = some (some (.slice none 0 0), 1, 24) := by kernel_rfl
theorem make_rows (n : Nat) (hn : n ≤ 64) (W : World) : (Instr.makeSlice 62 (.int .i64 ((n : Int) + 1)) (.int .i64 ((n : Int) + 1))).run Try.prog W =
    .ok (.slice (some ⟨W.heap.size, 0, none⟩) (n + 1) (n + 1)) (W.alloc (.cells (madeCells #[.slice none 0 0] (n + 1)) 47)) := by
  obtain ⟨i, hi, hz, hs, hb⟩ := info_parts infoR
  have h := run_make (P := Try.prog) W 62 47 i (.slice none 0 0) Try.underlying62 hi hz .i64 .i64 ((n : Int) + 1) ((n : Int) + 1) (by omega) (by omega) (by rw [hb]; omega) (by omega)
  rw [hs, show ((n : Int) + 1).toNat = n + 1 by omega, Nat.mul_one] at h
  exact h
theorem made_at (v : Value) (m k : Nat) (h : k < m) : (madeCells #[v] m)[k]? = some v := by simp [madeCells, h, Nat.mod_one]
theorem counted_dm {ps : List Pc} {wd ind : Int} (hv : validB ps = true) (hf : fitsB wd ind = true) : ∀ d j : Nat, j ≤ ps.length → -(1000000000 * (d : Int)) ≤ (kT ps wd ind d j).dm ∧ (kT ps wd ind d j).dm ≤ 1000000000 * (d : Int)
  | 0, j, _ => by
    show -(1000000000 * ((0 : Nat) : Int)) ≤ (tails0 ps.length j).dm ∧ (tails0 ps.length j).dm ≤ _
    unfold tails0
    split <;> simp [noTl]
  | d + 1, j, hj => by
    show _ ≤ (if j < ps.length then _ else _ : Tl).dm ∧ (if j < ps.length then _ else _ : Tl).dm ≤ _
    split
    · have := ext_dm (G := gG ps wd ind) (i := j) (fun k hk => counted_dm hv hf d k hk) (fun k _ hk => cC_bound hv hf (i := j) (by omega) hk) (by omega) (ps.length - j) (by omega)
      change -(1000000000 * ((d + 1 : Nat) : Int)) ≤ (ext ps.length (cC ps wd ind) (gG ps wd ind) (kT ps wd ind d) j (ps.length - j)).dm ∧ (ext ps.length (cC ps wd ind) (gG ps wd ind) (kT ps wd ind d) j (ps.length - j)).dm ≤ 1000000000 * ((d + 1 : Nat) : Int)
      omega
    · show _ ≤ (0 : Int) ∧ (0 : Int) ≤ _
      omega
theorem counted_TB {ps : List Pc} {wd ind : Int} (hv : validB ps = true) (hf : fitsB wd ind = true) {d : Nat} (hd : d ≤ 64) : TB (kT ps wd ind d) ps.length := fun j hj => by
  have := counted_dm hv hf d j hj
  omega
/-- The first m cells of AA are rows of tails: R 0, R 1, .. -/
def RowsC (W : World) (lo n : Nat) (AA : Array Value) (m : Nat) (R : Nat → Nat → Tl) : Prop :=
  ∀ c, c < m → ∃ b cs, lo < b ∧ W.heap[b]? = some (.cells cs 49 (0, 0)) ∧ AA[c]? = some (.slice (some ⟨b, 0, none⟩) (n + 1) (n + 1)) ∧ TlsC cs n (R c)
theorem RowsC.below {W W' : World} {lo n m : Nat} {AA : Array Value} {R : Nat → Nat → Tl} (h : RowsC W lo n AA m R) (hb : Below W.heap.size W W') : RowsC W' lo n AA m R := fun c hc => by
  obtain ⟨b, cs, h1, h2, h3, h4⟩ := h c hc
  exact ⟨b, cs, h1, (hb.block b (Array.getElem?_eq_some_iff.1 h2).1).trans h2, h3, h4⟩
theorem RowsC.upto {W W' : World} {lo n m top : Nat} {AA : Array Value} {R : Nat → Nat → Tl} (h : RowsC W lo n AA m R) (ht : W.heap.size ≤ top) (hb : Below top W W') : RowsC W' lo n AA m R := fun c hc => by
  obtain ⟨b, cs, h1, h2, h3, h4⟩ := h c hc
  exact ⟨b, cs, h1, (hb.block b (Nat.lt_of_lt_of_le (Array.getElem?_eq_some_iff.1 h2).1 ht)).trans h2, h3, h4⟩
def RowsU (W : World) (lo hi n : Nat) (AA : Array Value) (m : Nat) (R : Nat → Nat → Tl) : Prop :=
  ∀ c, c < m → ∃ b cs, lo < b ∧ b < hi ∧ W.heap[b]? = some (.cells cs 49 (0, 0)) ∧ AA[c]? = some (.slice (some ⟨b, 0, none⟩) (n + 1) (n + 1)) ∧ TlsC cs n (R c)
theorem RowsU.below {W W' : World} {lo hi n m : Nat} {AA : Array Value} {R : Nat → Nat → Tl} (h : RowsU W lo hi n AA m R) (hb : Below hi W W') : RowsC W' lo n AA m R := fun c hc => by
  obtain ⟨b, cs, h1, h0, h2, h3, h4⟩ := h c hc
  exact ⟨b, cs, h1, (hb.block b h0).trans h2, h3, h4⟩
theorem RowsC.set {W : World} {lo n m : Nat} {AA : Array Value} {R : Nat → Nat → Tl} (h : RowsC W lo n AA m R) (v : Value) : RowsC W lo n (AA.setIfInBounds m v) m R := fun c hc => by
  obtain ⟨b, cs, h1, h2, h3, h4⟩ := h c hc
  exact ⟨b, cs, h1, h2, by rw [Array.getElem?_setIfInBounds, if_neg (by omega)]; exact h3, h4⟩
theorem RowsC.snoc {W : World} {lo n m b : Nat} {AA cs : Array Value} {R : Nat → Nat → Tl} (h : RowsC W lo n AA m R) (hlo : lo < b) (hb : W.heap[b]? = some (.cells cs 49 (0, 0)))
    (hA : AA[m]? = some (.slice (some ⟨b, 0, none⟩) (n + 1) (n + 1))) (hT : TlsC cs n (R m)) : RowsC W lo n AA (m + 1) R := fun c hc => by
  by_cases e : c = m
  · subst e; exact ⟨b, cs, hlo, hb, hA, hT⟩
  · exact h c (by omega)
theorem set_self {AA : Array Value} {m : Nat} (h : m < AA.size) (v : Value) : (AA.setIfInBounds m v)[m]? = some v := by simp [h]
theorem kT_next {ps : List Pc} {wd ind : Int} {k j : Nat} (hj : j < ps.length) : kT ps wd ind (k + 1) j = ext ps.length (cC ps wd ind) (gG ps wd ind) (kT ps wd ind k) j (ps.length - j) := by
  show (if j < ps.length then _ else _ : Tl) = _
  rw [if_pos hj]
  rfl
theorem kT_last {ps : List Pc} {wd ind : Int} {k : Nat} : kT ps wd ind (k + 1) ps.length = noTl := by
  show (if ps.length < ps.length then _ else _ : Tl) = _
  rw [if_neg (Nat.lt_irrefl _)]
theorem cell_far3 {w : World} {b k0 k1 k2 x o : Nat} {v0 v1 v2 u : Value} (h : w.cell? ⟨x, o, none⟩ = some u) (hx : x ≠ b) : (((w.setCell ⟨b, k0, none⟩ v0).setCell ⟨b, k1, none⟩ v1).setCell ⟨b, k2, none⟩ v2).cell? ⟨x, o, none⟩ = some u := by
  refine (World.cell?_of_block (w := w) ?_).trans h
  · rw [Below.heap_setCell _ _ _ _ hx, Below.heap_setCell _ _ _ _ hx, Below.heap_setCell _ _ _ _ hx]
/-- What counted answers. -/
def CountTo (ps : List Pc) (wd ind : Int) (k : Nat) (w : World) (e : Ending) (w' : World) : Prop :=
  (∃ bA AA, e = .returned (.slice (some ⟨bA, 0, none⟩) (k + 1) (k + 1)) ∧ w'.heap[bA]? = some (.cells AA 47 (0, 0)) ∧ RowsC w' bA ps.length AA (k + 1) (kT ps wd ind)) ∧ Below w.heap.size w w'
set_option maxRecDepth 100000 in
set_option maxHeartbeats 1000000 in
theorem counted_any (A : Option Addr) (c : Nat) (ps : List Pc) (wd ind : Int) (k : Nat) (w : World) (hk : k ≤ 64) (hv : validB ps = true) (hf : fitsB wd ind = true) (hP : Pcs w w.heap.size A ps) :
    Calls Try.prog 31 #[.agg #[.slice A ps.length c, .int .i64 wd, .int .i64 ind], .int .i64 (k : Int)] w (CountTo ps wd ind k w) := by
  have h64 := (validB_iff.1 hv).1.2
  have h1 := (validB_iff.1 hv).1.1
  have HV := Lib.hid hv
  have HF := Lib.hid hf
  have HP := Lib.hid hP
  have hmk := make_tails ps.length h64
  have hmr := make_rows k hk
  have e0 : IntKind.i64.wrap ((ps.length : Int) + 1) = (ps.length : Int) + 1 := IntWalk.i64_in _ (by omega)
  have e1 : IntKind.i64.wrap ((k : Int) + 1) = (k : Int) + 1 := IntWalk.i64_in _ (by omega)
  clear hv hf hP
  have x0 : (madeCells #[.slice none 0 0] (k + 1))[0]? = some (Value.slice none 0 0) := made_at _ _ _ (by omega)
  have x1 : ∀ v : Value, ((madeCells #[.slice none 0 0] (k + 1)).setIfInBounds 0 v)[0]? = some v := fun v => set_self (by simp [madeCells]) v
  have x2 := (tlsC_made ps.length ps.length (Nat.le_refl _)).1
  go_enter Try.func31, Try.ntmps31
  go_wp2_with fail
  have kb := boxes3 w (.cells #[.slice A ps.length c, .int .i64 wd, .int .i64 ind] 46)
    (.cells ((madeCells #[.slice none 0 0] (k + 1)).setIfInBounds 0 (.slice (some ⟨w.heap.size + 1 + 1, 0, none⟩) (ps.length + 1) (ps.length + 1))) 47)
    (.cells ((madeCells zeroTl ((ps.length + 1) * 3)).setIfInBounds (ps.length * 3) (.bool true)) 49)
  generalize (((w.alloc (.cells #[.slice A ps.length c, .int .i64 wd, .int .i64 ind] 46)).alloc
    (.cells ((madeCells #[.slice none 0 0] (k + 1)).setIfInBounds 0 (.slice (some ⟨w.heap.size + 1 + 1, 0, none⟩) (ps.length + 1) (ps.length + 1))) 47)).alloc
    (.cells ((madeCells zeroTl ((ps.length + 1) * 3)).setIfInBounds (ps.length * 3) (.bool true)) 49)) = W0 at kb ⊢
  obtain ⟨⟨k0, k1, k2⟩, ks, kB⟩ := kb
  have hR0 : RowsC W0 (w.heap.size + 1) ps.length ((madeCells #[.slice none 0 0] (k + 1)).setIfInBounds 0 (.slice (some ⟨w.heap.size + 1 + 1, 0, none⟩) (ps.length + 1) (ps.length + 1))) (0 + 1) (kT ps wd ind) :=
    RowsC.snoc (fun c hc => absurd hc (Nat.not_lt_zero _)) (by omega) k2 (x1 _) (tlsC_end (tlsC_made ps.length))
  have hA0 : ((madeCells #[.slice none 0 0] (k + 1)).setIfInBounds 0 (.slice (some ⟨w.heap.size + 1 + 1, 0, none⟩) (ps.length + 1) (ps.length + 1))).size = k + 1 := by simp [madeCells]
  generalize (madeCells #[.slice none 0 0] (k + 1)).setIfInBounds 0 (.slice (some ⟨w.heap.size + 1 + 1, 0, none⟩) (ps.length + 1) (ps.length + 1)) = AA0 at k1 hR0 hA0
  have HK := Lib.hid (And.intro (And.intro k0 k1) (And.intro hR0 (And.intro hA0 kB)))
  clear k0 k1 k2 hR0 hA0 kB x0 x1 x2 hmr e1
  obtain ⟨s, hs⟩ : ∃ s, s = w.heap.size := ⟨_, rfl⟩
  have HS := Lib.hid hs
  rw [← hs] at HK ks ⊢
  clear hs
  go_loopw [7] (fun q wr => ∃ (m : Nat) (AA : Array Value), m ≤ k ∧ q = .int .i64 ((m : Int) + 1) ∧ AA.size = k + 1 ∧ wr.heap[s + 1]? = some (.cells AA 47 (0, 0)) ∧ RowsC wr (s + 1) ps.length AA (m + 1) (kT ps wd ind) ∧ Below (s + 1) W0 wr) (fun q _ => k + 1 - (intOf q).toNat)
  case atStart => exact ⟨0, AA0, Nat.zero_le _, rfl, HK.out.2.2.1, HK.out.1.2, HK.out.2.1, Below.refl _ _⟩
  case round =>
    obtain ⟨m, AA, hm, rfl, hAs, hA, hR, hbw⟩ := hrel
    have hsz := hbw.size
    rw [ks] at hsz
    have hk0 := (hbw.block s (by omega)).trans HK.out.1.1
    have HKR := Lib.hid hk0
    have HAS := Lib.hid hAs
    have HA := Lib.hid hA
    have HR := Lib.hid hR
    have HBW := Lib.hid hbw
    clear hk0 hAs hR hbw
    by_cases hlt : m < k
    · obtain ⟨old, hold⟩ : ∃ v, AA[m + 1]? = some v := ⟨AA[m + 1]'(by have := HAS.out; omega), Array.getElem?_eq_getElem _⟩
      have hdec : decide ((m : Int) + 1 ≤ (k : Int)) = true := decide_eq_true (by omega)
      have y0 := blk_cell (blk_more hA (.cells (madeCells zeroTl ((ps.length + 1) * 3)) 49)) (m + 1) _ hold
      have z0 := blk_free (blk_more hA (.cells (madeCells zeroTl ((ps.length + 1) * 3)) 49)) (m + 1)
      clear hA hold
      obtain ⟨wo, rfl⟩ : ∃ wo : World, wo = wr := ⟨_, rfl⟩
      go_wp2_with fail
      obtain ⟨b, hb⟩ : ∃ b, b = wo.heap.size := ⟨_, rfl⟩
      have HBB := Lib.hid hb
      rw [← hb] at hsz ⊢
      have j0 := blk_far (p := ⟨s + 1, m + 1, none⟩) (blk_more HKR.out (.cells (madeCells zeroTl ((ps.length + 1) * 3)) 49)) (by show s ≠ s + 1; omega) (.slice (some ⟨b, 0, none⟩) (ps.length + 1) (ps.length + 1))
      have j1 := blk_set (blk_more HA.out (.cells (madeCells zeroTl ((ps.length + 1) * 3)) 49)) (m + 1) (.slice (some ⟨b, 0, none⟩) (ps.length + 1) (ps.length + 1))
      have j2 := blk_far (p := ⟨s + 1, m + 1, none⟩) (blk_new wo (.cells (madeCells zeroTl ((ps.length + 1) * 3)) 49)) (by show wo.heap.size ≠ s + 1; omega) (.slice (some ⟨b, 0, none⟩) (ps.length + 1) (ps.length + 1))
      rw [← hb] at j2
      have jR : RowsU ((wo.alloc (.cells (madeCells zeroTl ((ps.length + 1) * 3)) 49)).setCell ⟨s + 1, m + 1, none⟩ (.slice (some ⟨b, 0, none⟩) (ps.length + 1) (ps.length + 1))) (s + 1) b ps.length (AA.setIfInBounds (m + 1) (.slice (some ⟨b, 0, none⟩) (ps.length + 1) (ps.length + 1))) (m + 1) (kT ps wd ind) := by
        intro c hc
        obtain ⟨bb, cs, h1, h2, h3, h4⟩ := HR.out c hc
        exact ⟨bb, cs, h1, by rw [hb]; exact (Array.getElem?_eq_some_iff.1 h2).1, blk_far (p := ⟨s + 1, m + 1, none⟩) (blk_more h2 _) (by show bb ≠ s + 1; omega) _, by rw [Array.getElem?_setIfInBounds, if_neg (by omega)]; exact h3, h4⟩
      obtain ⟨bp, cp, hp1, hp2, hp3, hp4⟩ := HR.out m (Nat.lt_succ_self _)
      have hpb : bp < b := by rw [hb]; exact (Array.getElem?_eq_some_iff.1 hp2).1
      replace hp2 := blk_far (p := ⟨s + 1, m + 1, none⟩) (blk_more hp2 (.cells (madeCells zeroTl ((ps.length + 1) * 3)) 49)) (by show bp ≠ s + 1; omega) (.slice (some ⟨b, 0, none⟩) (ps.length + 1) (ps.length + 1))
      replace hp3 : (AA.setIfInBounds (m + 1) (.slice (some ⟨b, 0, none⟩) (ps.length + 1) (ps.length + 1)))[m]? = some (.slice (some ⟨bp, 0, none⟩) (ps.length + 1) (ps.length + 1)) := by rw [Array.getElem?_setIfInBounds, if_neg (by omega)]; exact hp3
      have jB : Below (s + 1) W0 ((wo.alloc (.cells (madeCells zeroTl ((ps.length + 1) * 3)) 49)).setCell ⟨s + 1, m + 1, none⟩ (.slice (some ⟨b, 0, none⟩) (ps.length + 1) (ps.length + 1))) := (HBW.out.alloc (by omega) _).setCell (p := ⟨s + 1, m + 1, none⟩) (Nat.le_refl _) _
      have jS : ((wo.alloc (.cells (madeCells zeroTl ((ps.length + 1) * 3)) 49)).setCell ⟨s + 1, m + 1, none⟩ (.slice (some ⟨b, 0, none⟩) (ps.length + 1) (ps.length + 1))).heap.size = b + 1 := by rw [hb]; simp [World.setCell]
      have jA : (AA.setIfInBounds (m + 1) (.slice (some ⟨b, 0, none⟩) (ps.length + 1) (ps.length + 1))).size = k + 1 := by rw [Array.size_setIfInBounds]; exact HAS.out
      have jrow : (AA.setIfInBounds (m + 1) (.slice (some ⟨b, 0, none⟩) (ps.length + 1) (ps.length + 1)))[m + 1]? = some (Value.slice (some ⟨b, 0, none⟩) (ps.length + 1) (ps.length + 1)) := set_self (by have := HAS.out; omega) _
      generalize ((wo.alloc (.cells (madeCells zeroTl ((ps.length + 1) * 3)) 49)).setCell ⟨s + 1, m + 1, none⟩ (.slice (some ⟨b, 0, none⟩) (ps.length + 1) (ps.length + 1))) = W2 at j0 j1 j2 jR jB jS hp2 ⊢
      generalize AA.setIfInBounds (m + 1) (.slice (some ⟨b, 0, none⟩) (ps.length + 1) (ps.length + 1)) = AB at j1 jR jA jrow hp3
      have HP2 := Lib.hid (And.intro hp2 (And.intro hp3 hp4))
      clear hp2 hp3 hp4
      have HJ := Lib.hid (And.intro (And.intro j0 j1) (And.intro jR (And.intro jB (And.intro jA jrow))))
      have HJ2 := Lib.hid j2
      clear j0 j1 j2 jR jB jA jrow y0 z0 hb HKR HA HR HBW HAS old
      go_loopw [38] (fun q wr => ∃ (i : Nat) (cs : Array Value), i ≤ ps.length ∧ q = .int .i64 (i : Int) ∧ wr.heap[b]? = some (.cells cs 49 (0, 0)) ∧ TlsC cs ps.length (fun j => if j < i then kT ps wd ind (m + 1) j else noTl) ∧ Below b W2 wr) (fun q _ => ps.length - (intOf q).toNat)
      case atStart => exact ⟨0, _, Nat.zero_le _, rfl, HJ2.out, tlsC_congr (tlsC_made ps.length) (fun k _ => (if_neg (Nat.not_lt_zero _)).symm), Below.refl _ _⟩
      case round =>
        obtain ⟨i, cs, hi, rfl, hcs, hT, hbw⟩ := hrel
        have hsw := hbw.size
        rw [jS] at hsw
        by_cases hil : i < ps.length
        · have hBw : Below w.heap.size w wr := by
            rw [← HS.out]
            exact (HK.out.2.2.2.trans (HJ.out.2.2.1.mono (by omega))).trans (hbw.mono (by omega))
          have q0 := (hbw.block s (by omega)).trans HJ.out.1.1
          have q1 := (hbw.block (s + 1) (by omega)).trans HJ.out.1.2
          have q2 := (hbw.block bp hpb).trans HP2.out.1
          have p0 := blk_cell q0 0 _ rfl
          have p1 := blk_cell q0 1 _ rfl
          have p2 := blk_cell q0 2 _ rfl
          have r0 := blk_cell q1 m _ HP2.out.2.1
          have r1 := blk_cell q1 (m + 1) _ HJ.out.2.2.2.2
          have hEX : ∀ X, Below wr.heap.size wr X → Calls Try.prog 25 #[.agg #[.slice A ps.length c, .int .i64 wd, .int .i64 ind], .int .i64 (i : Int), .slice (some ⟨bp, 0, none⟩) (ps.length + 1) (ps.length + 1)] X fun e w' =>
              e = .returned (.agg #[.bool (kT ps wd ind (m + 1) i).th, .int .i64 (kT ps wd ind (m + 1) i).dm, .int .i64 ((kT ps wd ind (m + 1) i).en : Int)]) ∧ Below wr.heap.size wr w' := fun X hX => by
            have hbX : Below wr.heap.size wr X := hX
            refine (extend_nat A c ps wd ind i (some ⟨bp, 0, none⟩) (ps.length + 1) (kT ps wd ind m) X hil HV.out HF.out (HP.out.next (below_next hBw hX)) (tls_of ((hX.block bp (by omega)).trans q2) HP2.out.2.2 (by have := hX.size; omega)) (counted_TB HV.out HF.out (by omega))).mono ?_
            rintro e w' ⟨he, hb'⟩
            exact ⟨by rw [he, kT_next hil]; rfl, below_next hX hb'⟩
          have HEX := Lib.hid hEX
          have HCS := Lib.hid hcs
          have HT := Lib.hid hT
          have HBW := Lib.hid hbw
          have HQ := Lib.hid (And.intro q0 (And.intro q1 q2))
          clear hEX hcs hT hbw q0 q1 q2 hBw
          have hs0 : s < wr.heap.size := by omega
          have hs1 : s + 1 < wr.heap.size := by omega
          obtain ⟨r, hr⟩ : ∃ r, kT ps wd ind (m + 1) i = r := ⟨_, rfl⟩
          rw [hr] at HEX
          have HRR := Lib.hid hr
          clear hr
          obtain ⟨v0, v1, v2, g0, g1, g2⟩ : ∃ v0 v1 v2, cs[i * 3]? = some v0 ∧ cs[i * 3 + 1]? = some v1 ∧ cs[i * 3 + 2]? = some v2 := by
            obtain ⟨g0, g1, g2⟩ := HT.out i hi
            exact ⟨_, _, _, g0, g1, g2⟩
          have G012 := Lib.hid (And.intro g0 (And.intro g1 g2))
          clear g0 g1 g2
          have b1 : (0 : Int) ≤ (m : Int) + 1 := by omega
          have b2 : (m : Int) + 1 < (k : Int) + 1 := by omega
          have b3 : (m : Int) < (k : Int) + 1 := by omega
          have b4 : (i : Int) < (ps.length : Int) + 1 := by omega
          have b5 : m + 1 < k + 1 := by omega
          have b6 : m < k + 1 := by omega
          have b7 : i < ps.length + 1 := by omega
          have b8 : ((m : Int) + 1).toNat = m + 1 := by omega
          have nb0 : s ≠ b := by omega
          have nb1 : s + 1 ≠ b := by omega
          have hbw0 : b < wr.heap.size := by omega
          have e3 : (m : Int) + 1 - 1 = (m : Int) := by omega
          have e4 : IntKind.i64.wrap (m : Int) = (m : Int) := IntWalk.i64_in _ (by omega)
          have e2 : IntKind.i64.wrap ((m : Int) + 1 - 1) = (m : Int) := by rw [show (m : Int) + 1 - 1 = (m : Int) by omega]; exact IntWalk.i64_in _ (by omega)
          go_wp2_with fail
          go_region_held3 (fun W => (W.cell? ⟨s, 0, none⟩ = some (.slice A ps.length c) ∧ W.cell? ⟨s, 1, none⟩ = some (.int .i64 wd) ∧ W.cell? ⟨s, 2, none⟩ = some (.int .i64 ind)) ∧ W.cell? ⟨s + 1, m, none⟩ = some (.slice (some ⟨bp, 0, none⟩) (ps.length + 1) (ps.length + 1)) ∧ W.cell? ⟨s + 1, m + 1, none⟩ = some (.slice (some ⟨b, 0, none⟩) (ps.length + 1) (ps.length + 1))) (first | go_keep | exact ⟨⟨cell_far3 p0' nb0, cell_far3 p1' nb0, cell_far3 p2' nb0⟩, cell_far3 r0' nb1, cell_far3 r1' nb1⟩)
            (first
              | (go_at_call 25; refine (HEX.out _ (Below.refl _ wr).drew).mono ?_; rintro e w5 ⟨rfl, hb5⟩
                 have p0' := (hb5.cell (p := ⟨s, 0, none⟩) hs0).trans p0
                 have p1' := (hb5.cell (p := ⟨s, 1, none⟩) hs0).trans p1
                 have p2' := (hb5.cell (p := ⟨s, 2, none⟩) hs0).trans p2
                 have r0' := (hb5.cell (p := ⟨s + 1, m, none⟩) hs1).trans r0
                 have r1' := (hb5.cell (p := ⟨s + 1, m + 1, none⟩) hs1).trans r1
                 have o5 := (hb5.block b hbw0).trans HCS.out
                 have g0 := blk_cell o5 (i * 3) _ G012.out.1
                 have g1 := blk_cell o5 (i * 3 + 1) _ G012.out.2.1
                 have g2 := blk_cell o5 (i * 3 + 2) _ G012.out.2.2
                 have z0 := blk_free o5 (i * 3)
                 have z1 := blk_free o5 (i * 3 + 1)
                 have z2 := blk_free o5 (i * 3 + 2)
                 have O5 := Lib.hid o5
                 clear o5))
          clear p0 p1 p2 r0 r1 p0' p1' p2' r0' r1' g0 g1 g2 z0 z1 z2
          have HB5 := Lib.hid hb5
          clear hb5
          go_wp2
          go_roundw
          case rel =>
            refine ⟨i + 1, _, by omega, by go_num, blk_set (blk_set (blk_set O5.out (i * 3) _) (i * 3 + 1) _) (i * 3 + 2) _, tlsC_congr (tlsC_set HT.out hi r) (fun j hj => ?_), (((HBW.out.trans (HB5.out.mono (by omega))).setCell (p := ⟨b, i * 3, none⟩) (Nat.le_refl _) _).setCell (p := ⟨b, i * 3 + 1, none⟩) (Nat.le_refl _) _).setCell (p := ⟨b, i * 3 + 2, none⟩) (Nat.le_refl _) _⟩
            by_cases e : j = i
            · subst e
              rw [if_pos rfl, if_pos (by omega), HRR.out]
            · rw [if_neg e]
              by_cases e2 : j < i
              · rw [if_pos e2, if_pos (by omega)]
              · rw [if_neg e2, if_neg (by omega)]
          case measure => simp [intOf]; omega
        · obtain rfl : i = ps.length := by omega
          have hfull : TlsC cs ps.length (kT ps wd ind (m + 1)) := tlsC_congr hT (fun j hj => by
            by_cases e : j < ps.length
            · rw [if_pos e]
            · obtain rfl : j = ps.length := by omega
              rw [if_neg e, kT_last])
          have HFU := Lib.hid hfull
          have HCS := Lib.hid hcs
          have HBW := Lib.hid hbw
          clear hT hfull hcs hbw
          have e3 : IntKind.i64.wrap ((m : Int) + 1 + 1) = (m : Int) + 1 + 1 := IntWalk.i64_in _ (by omega)
          go_wp2
          go_roundw
          case rel =>
            refine ⟨m + 1, AB, hlt, by go_num, HJ.out.2.2.2.1, (HBW.out.block (s + 1) (by omega)).trans HJ.out.1.2, ?_, HJ.out.2.2.1.trans (HBW.out.mono (by omega))⟩
            exact RowsC.snoc (HJ.out.2.1.below HBW.out) (by omega) HCS.out HJ.out.2.2.2.2 HFU.out
          case measure => simp [intOf]; omega
    · obtain rfl : m = k := by omega
      have HBE : Hid (Below w.heap.size w wr) := by
        show Below _ _ _
        rw [← HS.out]
        exact HK.out.2.2.2.trans (HBW.out.mono (by omega))
      go_wp2
      go_ret
      exact ⟨⟨_, _, rfl, HA.out, HR.out⟩, HBE.out⟩
end Go.Proofs.Ytogkjaohphnflaa
