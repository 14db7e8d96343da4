/- The program's Equal. -/
import Derived.Test.YtlgnghehgcoccaaBoxPair
import Derived.Test.YtlgnghehgcoccaaBoxREq
import Derived.Deep.RegionLaw
namespace Go.Proofs.Ytlgnghehgcoccaa
open Go.RowKit
theorem infoPair : (Try.prog.info? 49).map (fun i => (i.zero, i.size, i.bytes)) = some (some (.agg #[.pointer none, .pointer none]), 2, 16) := by kernel_rfl
def RQ (w W0 : World) (a b : Bx) (N : Nat) (l : Value) (wr : World) : Prop :=
  ∃ (S : List (Bx × Bx)) (vs : List Value) (g : Addr) (cp : Nat), l = .slice (some g) S.length cp ∧ wr.ownsRow (w.heap.size + 2) 49 2 (.slice (some g) S.length cp) S.length vs ∧ PStk W0 (w.heap.size + 2) vs S ∧ cntP S = N ∧ N ≤ 100000 ∧ (a = b ↔ ∀ p ∈ S, p.1 = p.2) ∧ Below (w.heap.size + 2) W0 wr
set_option maxRecDepth 100000 in
set_option maxHeartbeats 8000000 in
theorem bequal_any {r : Bool} (a b : Bx) (A : Option Addr) (c : Nat) (A' : Option Addr) (c' : Nat) (B : Option Addr) (d : Nat) (B' : Option Addr) (d' : Nat) (w : World) (hla : lens a) (hlb : lens b) (hca : cntB a ≤ 100000) (hr : r = true ↔ a = b) (hKA : Kids w 0 w.heap.size A a.kids) (hIA : Ints w 0 w.heap.size A' a.src) (hKB : Kids w 0 w.heap.size B b.kids) (hIB : Ints w 0 w.heap.size B' b.src) :
    Calls Try.prog 9 #[.agg (bxA a A c A' c'), .agg (bxA b B d B' d')] w fun e w' => e = .returned (.bool r) ∧ Below w.heap.size w w' := by
  obtain ⟨i0, hi0, hz0, hz1, hz2⟩ := info_parts infoPair
  have HR := Lib.hid hr
  have HLA := Lib.hid hla
  have HLB := Lib.hid hlb
  have HCA := Lib.hid hca
  have HK0 := Lib.hid (And.intro hKA (And.intro hIA (And.intro hKB hIB)))
  clear hr hla hlb hKA hIA hKB hIB hca
  go_enter Try.func9, Try.ntmps9
  go_wp2_with fail
  obtain ⟨d0, d1, d2, hsz, hb⟩ := three_blocks w (bxA a A c A' c') (bxA b B d B' d') #[.pointer (some ⟨w.heap.size, 0, none⟩), .pointer (some ⟨w.heap.size + 1, 0, none⟩)] 25 25 49
  generalize (((w.alloc (.cells (bxA a A c A' c') 25)).alloc (.cells (bxA b B d B' d') 25)).alloc (.cells #[.pointer (some ⟨w.heap.size, 0, none⟩), .pointer (some ⟨w.heap.size + 1, 0, none⟩)] 49)) = W0 at d0 d1 d2 hsz hb ⊢
  have HB0 := Lib.hid hb
  have HSZ := Lib.hid hsz
  have HRQ : Hid (RQ w W0 a b (cntB a) (.slice (some ⟨w.heap.size + 2, 0, none⟩) 1 1) W0) := by
    refine ⟨[(a, b)], [.pointer (some ⟨w.heap.size, 0, none⟩), .pointer (some ⟨w.heap.size + 1, 0, none⟩)], _, 1, rfl, own_one (size := 2) d2 rfl, PStk.one ⟨w.heap.size, 0, A, c, A', c', rfl, by omega, fun j hj => by rw [Nat.zero_add]; exact cell_of_row _ _ _ _ _ _ d0, (HK0.out.1.low hb).mono (Nat.le_refl _) (by omega), (HK0.out.2.1.below hb).mono (Nat.le_refl _) (by omega), HLA.out⟩
      ⟨w.heap.size + 1, 0, B, d, B', d', rfl, by omega, fun j hj => by rw [Nat.zero_add]; exact cell_of_row _ _ _ _ _ _ d1, (HK0.out.2.2.1.low hb).mono (Nat.le_refl _) (by omega), (HK0.out.2.2.2.below hb).mono (Nat.le_refl _) (by omega), HLB.out⟩, cntP_one a b, HCA.out, by simp, Below.refl _ _⟩
  clear d0 d1 d2 hsz hb HK0
  go_loopw [5] (fun l wr => ∃ N, RQ w W0 a b N l wr) (fun l wr => leastN (fun N => RQ w W0 a b N l wr))
  case atStart => exact ⟨_, HRQ.out⟩
  case round =>
    have hle := leastN_at hrel
    clear hrel
    generalize hN : leastN _ = N at hle
    obtain ⟨S, vs, g, cp, rfl, hrow, hstk, hcnt, hN1, hall, hbw⟩ := hle
    by_cases h0 : 0 < S.length
    case neg =>
      have hz : S.length = 0 := by omega
      have hS : S = [] := List.eq_nil_of_length_eq_zero hz
      have HE : Hid (a = b) := hall.2 (by rw [hS]; simp)
      rw [hz]
      have HBW := Lib.hid hbw
      clear hrow hstk hcnt hbw hz hS hall hN hN1 h0
      go_wp2
      go_ret
      exact ⟨ret_bool (is_true HR.out HE.out), HB0.out.trans (HBW.out.mono (by omega))⟩
    obtain ⟨vs', p, q, S', t, u, rfl, rfl, hst', hent1, hent2⟩ := hstk.last h0
    obtain ⟨b1, o1, A1, c1, A2, c2, rfl, hb1, hat1, hk1, hi1, hl1⟩ := hent1
    obtain ⟨b2, o2, B1, d1, B2, d2, rfl, hb2, hat2, hk2, hi2, hl2⟩ := hent2
    obtain ⟨m, hm⟩ : ∃ m, S'.length = m := ⟨_, rfl⟩
    have hlS : (S' ++ [(t, u)]).length = m + 1 := by rw [List.length_append, hm]; rfl
    have hlv : vs'.length = m * 2 := by rw [hst'.len, hm]
    obtain ⟨gb, e, hgb, hgl, hcap, hcell⟩ := own_cell hrow h0
    injection e with e
    subst e
    have htk := own_take hrow (m := m) (by rw [hlS]; omega) (by simp)
    have hx1 := hcell (m * 2) (.pointer (some ⟨b1, o1, none⟩)) (by rw [← hlv]; simp)
    have hx2 := hcell (m * 2 + 1) (.pointer (some ⟨b2, o2, none⟩)) (by rw [← hlv]; simp)
    rw [show (vs' ++ [Value.pointer (some ⟨b1, o1, none⟩), .pointer (some ⟨b2, o2, none⟩)]).take (m * 2) = vs' by rw [← hlv]; simp] at htk
    rw [hlS] at hcap hN ⊢
    have HN := Lib.hid hN
    clear hN
    have HM := Lib.hid hm
    have HST := Lib.hid hst'
    have HCN : Hid (cntP S' + cntB t = N) := by rw [← hcnt, cntP_append, cntP_one]; exact rfl
    have HN1 := Lib.hid hN1
    have HALL : Hid (a = b ↔ (∀ p ∈ S', p.1 = p.2) ∧ t = u) := hall.trans ⟨fun h => ⟨fun p hp => h p (List.mem_append_left _ hp), h (t, u) (List.mem_append_right _ (by simp))⟩, fun h p hp => by
      rcases List.mem_append.1 hp with h1 | h1
      · exact h.1 p h1
      · simp at h1
        subst h1
        exact h.2⟩
    have hmb : m ≤ 100000 := by have := cntP_len S'; have := HCN.out; omega
    have hsub : IntKind.i64.wrap (((m + 1 : Nat) : Int) - 1) = (m : Int) := by rw [IntWalk.i64_in _ (by omega)]; omega
    have hbwq := hbw.drew
    have HNE : Hid (¬ t = u → false = r) := fun h => is_false HR.out (fun e => h (HALL.out.1 e).2)
    have HK1 := Lib.hid hk1
    have HK2 := Lib.hid hk2
    have HI1 := Lib.hid hi1
    have HI2 := Lib.hid hi2
    have HL1 := Lib.hid hl1
    have HL2 := Lib.hid hl2
    have HAT1 := Lib.hid hat1
    have HAT2 := Lib.hid hat2
    have HBW := Lib.hid hbw
    have HTK := Lib.hid htk
    clear hcell hrow hst' hbw hk1 hk2 hi1 hi2 hl1 hl2 hat1 hat2 htk hm hcnt hall hN1 hstk hlS hlv hbwq
    rename World => wo
    go_wp2_with fail
    go_quiet (fail)
    have HC : Hid (∀ X, Below (w.heap.size + 2) W0 X → BoxAt X b1 o1 t A1 c1 A2 c2 ∧ BoxAt X b2 o2 u B1 d1 B2 d2) := fun X hX => ⟨HAT1.out.below hX hb1, HAT2.out.below hX hb2⟩
    have HB1 := Lib.hid (below_drewN HBW.out nq)
    have HT1 := Lib.hid (own_below HTK.out (below_drewN (Below.refl _ _) nq))
    clear hx1 hx2 HBW HTK HAT1 HAT2
    generalize wo.drewN nq = W1 at HB1 HT1 ⊢
    go_wp2_with fail
    obtain ⟨na, hna⟩ : ∃ na, t.kids.length = na := ⟨_, rfl⟩
    obtain ⟨nb, hnb⟩ : ∃ nb, u.kids.length = nb := ⟨_, rfl⟩
    have HNA := Lib.hid hna
    have HNB := Lib.hid hnb
    clear hna hnb
    by_cases h0 : t.k = u.k
    case neg =>
      have HE := Lib.hid h0
      have q1 : (t.k != u.k) = true := by simp [h0]
      have q2 : (t.k == u.k) = false := by simp [h0]
      clear h0
      have zt0 : W1.cell? ⟨b1, o1, none⟩ = some (.int .i64 t.k) := (HC.out _ HB1.out).1 0 (by omega)
      have zu0 : W1.cell? ⟨b2, o2, none⟩ = some (.int .i64 u.k) := (HC.out _ HB1.out).2 0 (by omega)
      have zt1 : W1.cell? ⟨b1, o1 + 1, none⟩ = some (.string t.nm) := (HC.out _ HB1.out).1 1 (by omega)
      have zu1 : W1.cell? ⟨b2, o2 + 1, none⟩ = some (.string u.nm) := (HC.out _ HB1.out).2 1 (by omega)
      have zt2 : W1.cell? ⟨b1, o1 + 2, none⟩ = some (.int .i64 t.sz) := (HC.out _ HB1.out).1 2 (by omega)
      have zu2 : W1.cell? ⟨b2, o2 + 2, none⟩ = some (.int .i64 u.sz) := (HC.out _ HB1.out).2 2 (by omega)
      have zt3 : W1.cell? ⟨b1, o1 + 3, none⟩ = some (.int .i64 t.w) := (HC.out _ HB1.out).1 3 (by omega)
      have zu3 : W1.cell? ⟨b2, o2 + 3, none⟩ = some (.int .i64 u.w) := (HC.out _ HB1.out).2 3 (by omega)
      have zt4 : W1.cell? ⟨b1, o1 + 4, none⟩ = some (.int .i64 t.h) := (HC.out _ HB1.out).1 4 (by omega)
      have zu4 : W1.cell? ⟨b2, o2 + 4, none⟩ = some (.int .i64 u.h) := (HC.out _ HB1.out).2 4 (by omega)
      have zt5 : W1.cell? ⟨b1, o1 + 5, none⟩ = some (.int .i64 t.d) := (HC.out _ HB1.out).1 5 (by omega)
      have zu5 : W1.cell? ⟨b2, o2 + 5, none⟩ = some (.int .i64 u.d) := (HC.out _ HB1.out).2 5 (by omega)
      go_quiet (fail)
      clear zt0 zu0 zt1 zu1 zt2 zu2 zt3 zu3 zt4 zu4 zt5 zu5
      go_wp2
      go_ret
      exact ⟨ret_bool (HNE.out (fun e => HE.out (by rw [e]))), HB0.out.trans ((below_drewN HB1.out _).mono (by omega))⟩
    have HE0 := Lib.hid h0
    clear h0
    by_cases h1 : t.nm = u.nm
    case neg =>
      have HE := Lib.hid h1
      have q1 : (t.nm.toList != u.nm.toList) = true := by simp [nm_ne h1]
      have q2 : (t.nm.toList == u.nm.toList) = false := by simp [nm_ne h1]
      clear h1
      have zt0 : W1.cell? ⟨b1, o1, none⟩ = some (.int .i64 t.k) := (HC.out _ HB1.out).1 0 (by omega)
      have zu0 : W1.cell? ⟨b2, o2, none⟩ = some (.int .i64 t.k) := by rw [HE0.out]; exact (HC.out _ HB1.out).2 0 (by omega)
      have zt1 : W1.cell? ⟨b1, o1 + 1, none⟩ = some (.string t.nm) := (HC.out _ HB1.out).1 1 (by omega)
      have zu1 : W1.cell? ⟨b2, o2 + 1, none⟩ = some (.string u.nm) := (HC.out _ HB1.out).2 1 (by omega)
      have zt2 : W1.cell? ⟨b1, o1 + 2, none⟩ = some (.int .i64 t.sz) := (HC.out _ HB1.out).1 2 (by omega)
      have zu2 : W1.cell? ⟨b2, o2 + 2, none⟩ = some (.int .i64 u.sz) := (HC.out _ HB1.out).2 2 (by omega)
      have zt3 : W1.cell? ⟨b1, o1 + 3, none⟩ = some (.int .i64 t.w) := (HC.out _ HB1.out).1 3 (by omega)
      have zu3 : W1.cell? ⟨b2, o2 + 3, none⟩ = some (.int .i64 u.w) := (HC.out _ HB1.out).2 3 (by omega)
      have zt4 : W1.cell? ⟨b1, o1 + 4, none⟩ = some (.int .i64 t.h) := (HC.out _ HB1.out).1 4 (by omega)
      have zu4 : W1.cell? ⟨b2, o2 + 4, none⟩ = some (.int .i64 u.h) := (HC.out _ HB1.out).2 4 (by omega)
      have zt5 : W1.cell? ⟨b1, o1 + 5, none⟩ = some (.int .i64 t.d) := (HC.out _ HB1.out).1 5 (by omega)
      have zu5 : W1.cell? ⟨b2, o2 + 5, none⟩ = some (.int .i64 u.d) := (HC.out _ HB1.out).2 5 (by omega)
      go_quiet (fail)
      clear zt0 zu0 zt1 zu1 zt2 zu2 zt3 zu3 zt4 zu4 zt5 zu5
      go_wp2
      go_ret
      exact ⟨ret_bool (HNE.out (fun e => HE.out (by rw [e]))), HB0.out.trans ((below_drewN HB1.out _).mono (by omega))⟩
    have HE1 := Lib.hid h1
    clear h1
    by_cases h2 : t.sz = u.sz
    case neg =>
      have HE := Lib.hid h2
      have q1 : (t.sz != u.sz) = true := by simp [h2]
      have q2 : (t.sz == u.sz) = false := by simp [h2]
      clear h2
      have zt0 : W1.cell? ⟨b1, o1, none⟩ = some (.int .i64 t.k) := (HC.out _ HB1.out).1 0 (by omega)
      have zu0 : W1.cell? ⟨b2, o2, none⟩ = some (.int .i64 t.k) := by rw [HE0.out]; exact (HC.out _ HB1.out).2 0 (by omega)
      have zt1 : W1.cell? ⟨b1, o1 + 1, none⟩ = some (.string t.nm) := (HC.out _ HB1.out).1 1 (by omega)
      have zu1 : W1.cell? ⟨b2, o2 + 1, none⟩ = some (.string t.nm) := by rw [HE1.out]; exact (HC.out _ HB1.out).2 1 (by omega)
      have zt2 : W1.cell? ⟨b1, o1 + 2, none⟩ = some (.int .i64 t.sz) := (HC.out _ HB1.out).1 2 (by omega)
      have zu2 : W1.cell? ⟨b2, o2 + 2, none⟩ = some (.int .i64 u.sz) := (HC.out _ HB1.out).2 2 (by omega)
      have zt3 : W1.cell? ⟨b1, o1 + 3, none⟩ = some (.int .i64 t.w) := (HC.out _ HB1.out).1 3 (by omega)
      have zu3 : W1.cell? ⟨b2, o2 + 3, none⟩ = some (.int .i64 u.w) := (HC.out _ HB1.out).2 3 (by omega)
      have zt4 : W1.cell? ⟨b1, o1 + 4, none⟩ = some (.int .i64 t.h) := (HC.out _ HB1.out).1 4 (by omega)
      have zu4 : W1.cell? ⟨b2, o2 + 4, none⟩ = some (.int .i64 u.h) := (HC.out _ HB1.out).2 4 (by omega)
      have zt5 : W1.cell? ⟨b1, o1 + 5, none⟩ = some (.int .i64 t.d) := (HC.out _ HB1.out).1 5 (by omega)
      have zu5 : W1.cell? ⟨b2, o2 + 5, none⟩ = some (.int .i64 u.d) := (HC.out _ HB1.out).2 5 (by omega)
      go_quiet (fail)
      clear zt0 zu0 zt1 zu1 zt2 zu2 zt3 zu3 zt4 zu4 zt5 zu5
      go_wp2
      go_ret
      exact ⟨ret_bool (HNE.out (fun e => HE.out (by rw [e]))), HB0.out.trans ((below_drewN HB1.out _).mono (by omega))⟩
    have HE2 := Lib.hid h2
    clear h2
    by_cases h3 : t.w = u.w
    case neg =>
      have HE := Lib.hid h3
      have q1 : (t.w != u.w) = true := by simp [h3]
      have q2 : (t.w == u.w) = false := by simp [h3]
      clear h3
      have zt0 : W1.cell? ⟨b1, o1, none⟩ = some (.int .i64 t.k) := (HC.out _ HB1.out).1 0 (by omega)
      have zu0 : W1.cell? ⟨b2, o2, none⟩ = some (.int .i64 t.k) := by rw [HE0.out]; exact (HC.out _ HB1.out).2 0 (by omega)
      have zt1 : W1.cell? ⟨b1, o1 + 1, none⟩ = some (.string t.nm) := (HC.out _ HB1.out).1 1 (by omega)
      have zu1 : W1.cell? ⟨b2, o2 + 1, none⟩ = some (.string t.nm) := by rw [HE1.out]; exact (HC.out _ HB1.out).2 1 (by omega)
      have zt2 : W1.cell? ⟨b1, o1 + 2, none⟩ = some (.int .i64 t.sz) := (HC.out _ HB1.out).1 2 (by omega)
      have zu2 : W1.cell? ⟨b2, o2 + 2, none⟩ = some (.int .i64 t.sz) := by rw [HE2.out]; exact (HC.out _ HB1.out).2 2 (by omega)
      have zt3 : W1.cell? ⟨b1, o1 + 3, none⟩ = some (.int .i64 t.w) := (HC.out _ HB1.out).1 3 (by omega)
      have zu3 : W1.cell? ⟨b2, o2 + 3, none⟩ = some (.int .i64 u.w) := (HC.out _ HB1.out).2 3 (by omega)
      have zt4 : W1.cell? ⟨b1, o1 + 4, none⟩ = some (.int .i64 t.h) := (HC.out _ HB1.out).1 4 (by omega)
      have zu4 : W1.cell? ⟨b2, o2 + 4, none⟩ = some (.int .i64 u.h) := (HC.out _ HB1.out).2 4 (by omega)
      have zt5 : W1.cell? ⟨b1, o1 + 5, none⟩ = some (.int .i64 t.d) := (HC.out _ HB1.out).1 5 (by omega)
      have zu5 : W1.cell? ⟨b2, o2 + 5, none⟩ = some (.int .i64 u.d) := (HC.out _ HB1.out).2 5 (by omega)
      go_quiet (fail)
      clear zt0 zu0 zt1 zu1 zt2 zu2 zt3 zu3 zt4 zu4 zt5 zu5
      go_wp2
      go_ret
      exact ⟨ret_bool (HNE.out (fun e => HE.out (by rw [e]))), HB0.out.trans ((below_drewN HB1.out _).mono (by omega))⟩
    have HE3 := Lib.hid h3
    clear h3
    by_cases h4 : t.h = u.h
    case neg =>
      have HE := Lib.hid h4
      have q1 : (t.h != u.h) = true := by simp [h4]
      have q2 : (t.h == u.h) = false := by simp [h4]
      clear h4
      have zt0 : W1.cell? ⟨b1, o1, none⟩ = some (.int .i64 t.k) := (HC.out _ HB1.out).1 0 (by omega)
      have zu0 : W1.cell? ⟨b2, o2, none⟩ = some (.int .i64 t.k) := by rw [HE0.out]; exact (HC.out _ HB1.out).2 0 (by omega)
      have zt1 : W1.cell? ⟨b1, o1 + 1, none⟩ = some (.string t.nm) := (HC.out _ HB1.out).1 1 (by omega)
      have zu1 : W1.cell? ⟨b2, o2 + 1, none⟩ = some (.string t.nm) := by rw [HE1.out]; exact (HC.out _ HB1.out).2 1 (by omega)
      have zt2 : W1.cell? ⟨b1, o1 + 2, none⟩ = some (.int .i64 t.sz) := (HC.out _ HB1.out).1 2 (by omega)
      have zu2 : W1.cell? ⟨b2, o2 + 2, none⟩ = some (.int .i64 t.sz) := by rw [HE2.out]; exact (HC.out _ HB1.out).2 2 (by omega)
      have zt3 : W1.cell? ⟨b1, o1 + 3, none⟩ = some (.int .i64 t.w) := (HC.out _ HB1.out).1 3 (by omega)
      have zu3 : W1.cell? ⟨b2, o2 + 3, none⟩ = some (.int .i64 t.w) := by rw [HE3.out]; exact (HC.out _ HB1.out).2 3 (by omega)
      have zt4 : W1.cell? ⟨b1, o1 + 4, none⟩ = some (.int .i64 t.h) := (HC.out _ HB1.out).1 4 (by omega)
      have zu4 : W1.cell? ⟨b2, o2 + 4, none⟩ = some (.int .i64 u.h) := (HC.out _ HB1.out).2 4 (by omega)
      have zt5 : W1.cell? ⟨b1, o1 + 5, none⟩ = some (.int .i64 t.d) := (HC.out _ HB1.out).1 5 (by omega)
      have zu5 : W1.cell? ⟨b2, o2 + 5, none⟩ = some (.int .i64 u.d) := (HC.out _ HB1.out).2 5 (by omega)
      go_quiet (fail)
      clear zt0 zu0 zt1 zu1 zt2 zu2 zt3 zu3 zt4 zu4 zt5 zu5
      go_wp2
      go_ret
      exact ⟨ret_bool (HNE.out (fun e => HE.out (by rw [e]))), HB0.out.trans ((below_drewN HB1.out _).mono (by omega))⟩
    have HE4 := Lib.hid h4
    clear h4
    by_cases h5 : t.d = u.d
    case neg =>
      have HE := Lib.hid h5
      have q1 : (t.d != u.d) = true := by simp [h5]
      have q2 : (t.d == u.d) = false := by simp [h5]
      clear h5
      have zt0 : W1.cell? ⟨b1, o1, none⟩ = some (.int .i64 t.k) := (HC.out _ HB1.out).1 0 (by omega)
      have zu0 : W1.cell? ⟨b2, o2, none⟩ = some (.int .i64 t.k) := by rw [HE0.out]; exact (HC.out _ HB1.out).2 0 (by omega)
      have zt1 : W1.cell? ⟨b1, o1 + 1, none⟩ = some (.string t.nm) := (HC.out _ HB1.out).1 1 (by omega)
      have zu1 : W1.cell? ⟨b2, o2 + 1, none⟩ = some (.string t.nm) := by rw [HE1.out]; exact (HC.out _ HB1.out).2 1 (by omega)
      have zt2 : W1.cell? ⟨b1, o1 + 2, none⟩ = some (.int .i64 t.sz) := (HC.out _ HB1.out).1 2 (by omega)
      have zu2 : W1.cell? ⟨b2, o2 + 2, none⟩ = some (.int .i64 t.sz) := by rw [HE2.out]; exact (HC.out _ HB1.out).2 2 (by omega)
      have zt3 : W1.cell? ⟨b1, o1 + 3, none⟩ = some (.int .i64 t.w) := (HC.out _ HB1.out).1 3 (by omega)
      have zu3 : W1.cell? ⟨b2, o2 + 3, none⟩ = some (.int .i64 t.w) := by rw [HE3.out]; exact (HC.out _ HB1.out).2 3 (by omega)
      have zt4 : W1.cell? ⟨b1, o1 + 4, none⟩ = some (.int .i64 t.h) := (HC.out _ HB1.out).1 4 (by omega)
      have zu4 : W1.cell? ⟨b2, o2 + 4, none⟩ = some (.int .i64 t.h) := by rw [HE4.out]; exact (HC.out _ HB1.out).2 4 (by omega)
      have zt5 : W1.cell? ⟨b1, o1 + 5, none⟩ = some (.int .i64 t.d) := (HC.out _ HB1.out).1 5 (by omega)
      have zu5 : W1.cell? ⟨b2, o2 + 5, none⟩ = some (.int .i64 u.d) := (HC.out _ HB1.out).2 5 (by omega)
      go_quiet (fail)
      clear zt0 zu0 zt1 zu1 zt2 zu2 zt3 zu3 zt4 zu4 zt5 zu5
      go_wp2
      go_ret
      exact ⟨ret_bool (HNE.out (fun e => HE.out (by rw [e]))), HB0.out.trans ((below_drewN HB1.out _).mono (by omega))⟩
    have HE5 := Lib.hid h5
    clear h5
    have zt0 : W1.cell? ⟨b1, o1, none⟩ = some (.int .i64 t.k) := (HC.out _ HB1.out).1 0 (by omega)
    have zu0 : W1.cell? ⟨b2, o2, none⟩ = some (.int .i64 t.k) := by rw [HE0.out]; exact (HC.out _ HB1.out).2 0 (by omega)
    have zt1 : W1.cell? ⟨b1, o1 + 1, none⟩ = some (.string t.nm) := (HC.out _ HB1.out).1 1 (by omega)
    have zu1 : W1.cell? ⟨b2, o2 + 1, none⟩ = some (.string t.nm) := by rw [HE1.out]; exact (HC.out _ HB1.out).2 1 (by omega)
    have zt2 : W1.cell? ⟨b1, o1 + 2, none⟩ = some (.int .i64 t.sz) := (HC.out _ HB1.out).1 2 (by omega)
    have zu2 : W1.cell? ⟨b2, o2 + 2, none⟩ = some (.int .i64 t.sz) := by rw [HE2.out]; exact (HC.out _ HB1.out).2 2 (by omega)
    have zt3 : W1.cell? ⟨b1, o1 + 3, none⟩ = some (.int .i64 t.w) := (HC.out _ HB1.out).1 3 (by omega)
    have zu3 : W1.cell? ⟨b2, o2 + 3, none⟩ = some (.int .i64 t.w) := by rw [HE3.out]; exact (HC.out _ HB1.out).2 3 (by omega)
    have zt4 : W1.cell? ⟨b1, o1 + 4, none⟩ = some (.int .i64 t.h) := (HC.out _ HB1.out).1 4 (by omega)
    have zu4 : W1.cell? ⟨b2, o2 + 4, none⟩ = some (.int .i64 t.h) := by rw [HE4.out]; exact (HC.out _ HB1.out).2 4 (by omega)
    have zt5 : W1.cell? ⟨b1, o1 + 5, none⟩ = some (.int .i64 t.d) := (HC.out _ HB1.out).1 5 (by omega)
    have zu5 : W1.cell? ⟨b2, o2 + 5, none⟩ = some (.int .i64 t.d) := by rw [HE5.out]; exact (HC.out _ HB1.out).2 5 (by omega)
    go_quiet (fail)
    clear zt0 zu0 zt1 zu1 zt2 zu2 zt3 zu3 zt4 zu4 zt5 zu5
    have HB2 := Lib.hid (below_drewN HB1.out nq)
    have HT2 := Lib.hid (own_below HT1.out (below_drewN (Below.refl _ _) nq))
    clear HB1 HT1
    generalize W1.drewN nq = W2 at HB2 HT2 ⊢
    go_wp2_with fail
    have HCV : Hid (∀ v : Bel W2.heap.size W2, Below (w.heap.size + 2) W0 v.v) := fun v => HB2.out.trans (v.h.mono (by have := HB2.out.size; have := HSZ.out; omega))
    obtain ⟨rs, hrs⟩ := bool_of (t.src = u.src)
    have HRS := Lib.hid hrs
    clear hrs
    have HSI : Hid (∀ v : Bel W2.heap.size W2, Calls Try.prog 27 #[.slice A2 t.src.length c2, .slice B2 u.src.length d2] v.v fun e w' => e = .returned (.bool rs) ∧ ∃ v' : Bel W2.heap.size W2, w' = v'.v) := fun v => by
      have hbv := HCV.out v
      have hsz := hbv.size
      have hsz0 := HSZ.out
      refine (ssame_any A2 B2 c2 d2 t.src u.src v.v HRS.out HL1.out.2.1 HL2.out.2.1 ((HI1.out.below hbv).mono (Nat.le_refl _) (by omega)) ((HI2.out.below hbv).mono (Nat.le_refl _) (by omega))).mono ?_
      rintro e w' ⟨he, hb⟩
      exact ⟨he, ⟨w', below_next v.h hb⟩, rfl⟩
    by_cases h6 : t.x = u.x
    case neg =>
      have HE := Lib.hid h6
      have q1 : (t.x != u.x) = true := by simp [h6]
      have q2 : (t.x == u.x) = false := by simp [h6]
      clear h6
      have zt6 : ∀ v : Bel W2.heap.size W2, v.v.cell? ⟨b1, o1 + 6, none⟩ = some (.int .i64 t.x) := fun v => (HC.out _ (HCV.out v)).1 6 (by omega)
      have zu6 : ∀ v : Bel W2.heap.size W2, v.v.cell? ⟨b2, o2 + 6, none⟩ = some (.int .i64 u.x) := fun v => (HC.out _ (HCV.out v)).2 6 (by omega)
      have zt7 : ∀ v : Bel W2.heap.size W2, v.v.cell? ⟨b1, o1 + 7, none⟩ = some (.int .i64 t.y) := fun v => (HC.out _ (HCV.out v)).1 7 (by omega)
      have zu7 : ∀ v : Bel W2.heap.size W2, v.v.cell? ⟨b2, o2 + 7, none⟩ = some (.int .i64 u.y) := fun v => (HC.out _ (HCV.out v)).2 7 (by omega)
      have zt9 : ∀ v : Bel W2.heap.size W2, v.v.cell? ⟨b1, o1 + 9, none⟩ = some (.int .i64 t.of_) := fun v => (HC.out _ (HCV.out v)).1 9 (by omega)
      have zu9 : ∀ v : Bel W2.heap.size W2, v.v.cell? ⟨b2, o2 + 9, none⟩ = some (.int .i64 u.of_) := fun v => (HC.out _ (HCV.out v)).2 9 (by omega)
      have zt8 : ∀ v : Bel W2.heap.size W2, v.v.cell? ⟨b1, o1 + 8, none⟩ = some (.slice A1 na c1) := by rw [← HNA.out]; exact fun v => (HC.out _ (HCV.out v)).1 8 (by omega)
      have zu8 : ∀ v : Bel W2.heap.size W2, v.v.cell? ⟨b2, o2 + 8, none⟩ = some (.slice B1 nb d1) := by rw [← HNB.out]; exact fun v => (HC.out _ (HCV.out v)).2 8 (by omega)
      have zt10 : ∀ v : Bel W2.heap.size W2, v.v.cell? ⟨b1, o1 + 10, none⟩ = some (.slice A2 t.src.length c2) := fun v => (HC.out _ (HCV.out v)).1 10 (by omega)
      have zu10 : ∀ v : Bel W2.heap.size W2, v.v.cell? ⟨b2, o2 + 10, none⟩ = some (.slice B2 u.src.length d2) := fun v => (HC.out _ (HCV.out v)).2 10 (by omega)
      refine wp_region_bel (by kernel_rfl) (by kernel_rfl) ?_
      repeat (go_big_quiet_step (first | (go_at_call 27; exact HSI.out _)))
      clear zt6 zu6 zt7 zu7 zt8 zu8 zt9 zu9 zt10 zu10
      refine wpQuiet_nil ?_
      rintro W3 ⟨v, rfl⟩
      go_wp2
      go_ret
      exact ⟨ret_bool (HNE.out (fun e => HE.out (by rw [e]))), HB0.out.trans ((HCV.out v).mono (by omega))⟩
    have HE6 := Lib.hid h6
    clear h6
    by_cases h7 : t.y = u.y
    case neg =>
      have HE := Lib.hid h7
      have q1 : (t.y != u.y) = true := by simp [h7]
      have q2 : (t.y == u.y) = false := by simp [h7]
      clear h7
      have zt6 : ∀ v : Bel W2.heap.size W2, v.v.cell? ⟨b1, o1 + 6, none⟩ = some (.int .i64 t.x) := fun v => (HC.out _ (HCV.out v)).1 6 (by omega)
      have zu6 : ∀ v : Bel W2.heap.size W2, v.v.cell? ⟨b2, o2 + 6, none⟩ = some (.int .i64 t.x) := by rw [HE6.out]; exact fun v => (HC.out _ (HCV.out v)).2 6 (by omega)
      have zt7 : ∀ v : Bel W2.heap.size W2, v.v.cell? ⟨b1, o1 + 7, none⟩ = some (.int .i64 t.y) := fun v => (HC.out _ (HCV.out v)).1 7 (by omega)
      have zu7 : ∀ v : Bel W2.heap.size W2, v.v.cell? ⟨b2, o2 + 7, none⟩ = some (.int .i64 u.y) := fun v => (HC.out _ (HCV.out v)).2 7 (by omega)
      have zt9 : ∀ v : Bel W2.heap.size W2, v.v.cell? ⟨b1, o1 + 9, none⟩ = some (.int .i64 t.of_) := fun v => (HC.out _ (HCV.out v)).1 9 (by omega)
      have zu9 : ∀ v : Bel W2.heap.size W2, v.v.cell? ⟨b2, o2 + 9, none⟩ = some (.int .i64 u.of_) := fun v => (HC.out _ (HCV.out v)).2 9 (by omega)
      have zt8 : ∀ v : Bel W2.heap.size W2, v.v.cell? ⟨b1, o1 + 8, none⟩ = some (.slice A1 na c1) := by rw [← HNA.out]; exact fun v => (HC.out _ (HCV.out v)).1 8 (by omega)
      have zu8 : ∀ v : Bel W2.heap.size W2, v.v.cell? ⟨b2, o2 + 8, none⟩ = some (.slice B1 nb d1) := by rw [← HNB.out]; exact fun v => (HC.out _ (HCV.out v)).2 8 (by omega)
      have zt10 : ∀ v : Bel W2.heap.size W2, v.v.cell? ⟨b1, o1 + 10, none⟩ = some (.slice A2 t.src.length c2) := fun v => (HC.out _ (HCV.out v)).1 10 (by omega)
      have zu10 : ∀ v : Bel W2.heap.size W2, v.v.cell? ⟨b2, o2 + 10, none⟩ = some (.slice B2 u.src.length d2) := fun v => (HC.out _ (HCV.out v)).2 10 (by omega)
      refine wp_region_bel (by kernel_rfl) (by kernel_rfl) ?_
      repeat (go_big_quiet_step (first | (go_at_call 27; exact HSI.out _)))
      clear zt6 zu6 zt7 zu7 zt8 zu8 zt9 zu9 zt10 zu10
      refine wpQuiet_nil ?_
      rintro W3 ⟨v, rfl⟩
      go_wp2
      go_ret
      exact ⟨ret_bool (HNE.out (fun e => HE.out (by rw [e]))), HB0.out.trans ((HCV.out v).mono (by omega))⟩
    have HE7 := Lib.hid h7
    clear h7
    by_cases h9 : t.of_ = u.of_
    case neg =>
      have HE := Lib.hid h9
      have q1 : (t.of_ != u.of_) = true := by simp [h9]
      have q2 : (t.of_ == u.of_) = false := by simp [h9]
      clear h9
      have zt6 : ∀ v : Bel W2.heap.size W2, v.v.cell? ⟨b1, o1 + 6, none⟩ = some (.int .i64 t.x) := fun v => (HC.out _ (HCV.out v)).1 6 (by omega)
      have zu6 : ∀ v : Bel W2.heap.size W2, v.v.cell? ⟨b2, o2 + 6, none⟩ = some (.int .i64 t.x) := by rw [HE6.out]; exact fun v => (HC.out _ (HCV.out v)).2 6 (by omega)
      have zt7 : ∀ v : Bel W2.heap.size W2, v.v.cell? ⟨b1, o1 + 7, none⟩ = some (.int .i64 t.y) := fun v => (HC.out _ (HCV.out v)).1 7 (by omega)
      have zu7 : ∀ v : Bel W2.heap.size W2, v.v.cell? ⟨b2, o2 + 7, none⟩ = some (.int .i64 t.y) := by rw [HE7.out]; exact fun v => (HC.out _ (HCV.out v)).2 7 (by omega)
      have zt9 : ∀ v : Bel W2.heap.size W2, v.v.cell? ⟨b1, o1 + 9, none⟩ = some (.int .i64 t.of_) := fun v => (HC.out _ (HCV.out v)).1 9 (by omega)
      have zu9 : ∀ v : Bel W2.heap.size W2, v.v.cell? ⟨b2, o2 + 9, none⟩ = some (.int .i64 u.of_) := fun v => (HC.out _ (HCV.out v)).2 9 (by omega)
      have zt8 : ∀ v : Bel W2.heap.size W2, v.v.cell? ⟨b1, o1 + 8, none⟩ = some (.slice A1 na c1) := by rw [← HNA.out]; exact fun v => (HC.out _ (HCV.out v)).1 8 (by omega)
      have zu8 : ∀ v : Bel W2.heap.size W2, v.v.cell? ⟨b2, o2 + 8, none⟩ = some (.slice B1 nb d1) := by rw [← HNB.out]; exact fun v => (HC.out _ (HCV.out v)).2 8 (by omega)
      have zt10 : ∀ v : Bel W2.heap.size W2, v.v.cell? ⟨b1, o1 + 10, none⟩ = some (.slice A2 t.src.length c2) := fun v => (HC.out _ (HCV.out v)).1 10 (by omega)
      have zu10 : ∀ v : Bel W2.heap.size W2, v.v.cell? ⟨b2, o2 + 10, none⟩ = some (.slice B2 u.src.length d2) := fun v => (HC.out _ (HCV.out v)).2 10 (by omega)
      refine wp_region_bel (by kernel_rfl) (by kernel_rfl) ?_
      repeat (go_big_quiet_step (first | (go_at_call 27; exact HSI.out _)))
      clear zt6 zu6 zt7 zu7 zt8 zu8 zt9 zu9 zt10 zu10
      refine wpQuiet_nil ?_
      rintro W3 ⟨v, rfl⟩
      go_wp2
      go_ret
      exact ⟨ret_bool (HNE.out (fun e => HE.out (by rw [e]))), HB0.out.trans ((HCV.out v).mono (by omega))⟩
    have HE9 := Lib.hid h9
    clear h9
    cases rs with
    | false =>
      have HSN : Hid (¬ t.src = u.src) := fun h => by have := HRS.out.2 h; cases this
      clear HRS
      have zt6 : ∀ v : Bel W2.heap.size W2, v.v.cell? ⟨b1, o1 + 6, none⟩ = some (.int .i64 t.x) := fun v => (HC.out _ (HCV.out v)).1 6 (by omega)
      have zu6 : ∀ v : Bel W2.heap.size W2, v.v.cell? ⟨b2, o2 + 6, none⟩ = some (.int .i64 t.x) := by rw [HE6.out]; exact fun v => (HC.out _ (HCV.out v)).2 6 (by omega)
      have zt7 : ∀ v : Bel W2.heap.size W2, v.v.cell? ⟨b1, o1 + 7, none⟩ = some (.int .i64 t.y) := fun v => (HC.out _ (HCV.out v)).1 7 (by omega)
      have zu7 : ∀ v : Bel W2.heap.size W2, v.v.cell? ⟨b2, o2 + 7, none⟩ = some (.int .i64 t.y) := by rw [HE7.out]; exact fun v => (HC.out _ (HCV.out v)).2 7 (by omega)
      have zt9 : ∀ v : Bel W2.heap.size W2, v.v.cell? ⟨b1, o1 + 9, none⟩ = some (.int .i64 t.of_) := fun v => (HC.out _ (HCV.out v)).1 9 (by omega)
      have zu9 : ∀ v : Bel W2.heap.size W2, v.v.cell? ⟨b2, o2 + 9, none⟩ = some (.int .i64 t.of_) := by rw [HE9.out]; exact fun v => (HC.out _ (HCV.out v)).2 9 (by omega)
      have zt8 : ∀ v : Bel W2.heap.size W2, v.v.cell? ⟨b1, o1 + 8, none⟩ = some (.slice A1 na c1) := by rw [← HNA.out]; exact fun v => (HC.out _ (HCV.out v)).1 8 (by omega)
      have zu8 : ∀ v : Bel W2.heap.size W2, v.v.cell? ⟨b2, o2 + 8, none⟩ = some (.slice B1 nb d1) := by rw [← HNB.out]; exact fun v => (HC.out _ (HCV.out v)).2 8 (by omega)
      have zt10 : ∀ v : Bel W2.heap.size W2, v.v.cell? ⟨b1, o1 + 10, none⟩ = some (.slice A2 t.src.length c2) := fun v => (HC.out _ (HCV.out v)).1 10 (by omega)
      have zu10 : ∀ v : Bel W2.heap.size W2, v.v.cell? ⟨b2, o2 + 10, none⟩ = some (.slice B2 u.src.length d2) := fun v => (HC.out _ (HCV.out v)).2 10 (by omega)
      refine wp_region_bel (by kernel_rfl) (by kernel_rfl) ?_
      repeat (go_big_quiet_step (first | (go_at_call 27; exact HSI.out _)))
      clear zt6 zu6 zt7 zu7 zt8 zu8 zt9 zu9 zt10 zu10
      refine wpQuiet_nil ?_
      rintro W3 ⟨v, rfl⟩
      go_wp2
      go_ret
      exact ⟨ret_bool (HNE.out (fun e => HSN.out (by rw [e]))), HB0.out.trans ((HCV.out v).mono (by omega))⟩
    | true =>
      have HSR : Hid (t.src = u.src) := HRS.out.1 rfl
      clear HRS
      by_cases hk : na = nb
      case neg =>
        have HE := Lib.hid hk
        have q1 : ((na : Int) != (nb : Int)) = true := by simp; omega
        have q2 : ((na : Int) == (nb : Int)) = false := by simp; omega
        clear hk
        have zt6 : ∀ v : Bel W2.heap.size W2, v.v.cell? ⟨b1, o1 + 6, none⟩ = some (.int .i64 t.x) := fun v => (HC.out _ (HCV.out v)).1 6 (by omega)
        have zu6 : ∀ v : Bel W2.heap.size W2, v.v.cell? ⟨b2, o2 + 6, none⟩ = some (.int .i64 t.x) := by rw [HE6.out]; exact fun v => (HC.out _ (HCV.out v)).2 6 (by omega)
        have zt7 : ∀ v : Bel W2.heap.size W2, v.v.cell? ⟨b1, o1 + 7, none⟩ = some (.int .i64 t.y) := fun v => (HC.out _ (HCV.out v)).1 7 (by omega)
        have zu7 : ∀ v : Bel W2.heap.size W2, v.v.cell? ⟨b2, o2 + 7, none⟩ = some (.int .i64 t.y) := by rw [HE7.out]; exact fun v => (HC.out _ (HCV.out v)).2 7 (by omega)
        have zt9 : ∀ v : Bel W2.heap.size W2, v.v.cell? ⟨b1, o1 + 9, none⟩ = some (.int .i64 t.of_) := fun v => (HC.out _ (HCV.out v)).1 9 (by omega)
        have zu9 : ∀ v : Bel W2.heap.size W2, v.v.cell? ⟨b2, o2 + 9, none⟩ = some (.int .i64 t.of_) := by rw [HE9.out]; exact fun v => (HC.out _ (HCV.out v)).2 9 (by omega)
        have zt8 : ∀ v : Bel W2.heap.size W2, v.v.cell? ⟨b1, o1 + 8, none⟩ = some (.slice A1 na c1) := by rw [← HNA.out]; exact fun v => (HC.out _ (HCV.out v)).1 8 (by omega)
        have zu8 : ∀ v : Bel W2.heap.size W2, v.v.cell? ⟨b2, o2 + 8, none⟩ = some (.slice B1 nb d1) := by rw [← HNB.out]; exact fun v => (HC.out _ (HCV.out v)).2 8 (by omega)
        have zt10 : ∀ v : Bel W2.heap.size W2, v.v.cell? ⟨b1, o1 + 10, none⟩ = some (.slice A2 t.src.length c2) := fun v => (HC.out _ (HCV.out v)).1 10 (by omega)
        have zu10 : ∀ v : Bel W2.heap.size W2, v.v.cell? ⟨b2, o2 + 10, none⟩ = some (.slice B2 u.src.length d2) := fun v => (HC.out _ (HCV.out v)).2 10 (by omega)
        refine wp_region_bel (by kernel_rfl) (by kernel_rfl) ?_
        repeat (go_big_quiet_step (first | (go_at_call 27; exact HSI.out _)))
        clear zt6 zu6 zt7 zu7 zt8 zu8 zt9 zu9 zt10 zu10
        refine wpQuiet_nil ?_
        rintro W3 ⟨v, rfl⟩
        go_wp2
        go_ret
        exact ⟨ret_bool (HNE.out (fun e => HE.out (by rw [← HNA.out, ← HNB.out, e]))), HB0.out.trans ((HCV.out v).mono (by omega))⟩
      subst hk
      have zt6 : ∀ v : Bel W2.heap.size W2, v.v.cell? ⟨b1, o1 + 6, none⟩ = some (.int .i64 t.x) := fun v => (HC.out _ (HCV.out v)).1 6 (by omega)
      have zu6 : ∀ v : Bel W2.heap.size W2, v.v.cell? ⟨b2, o2 + 6, none⟩ = some (.int .i64 t.x) := by rw [HE6.out]; exact fun v => (HC.out _ (HCV.out v)).2 6 (by omega)
      have zt7 : ∀ v : Bel W2.heap.size W2, v.v.cell? ⟨b1, o1 + 7, none⟩ = some (.int .i64 t.y) := fun v => (HC.out _ (HCV.out v)).1 7 (by omega)
      have zu7 : ∀ v : Bel W2.heap.size W2, v.v.cell? ⟨b2, o2 + 7, none⟩ = some (.int .i64 t.y) := by rw [HE7.out]; exact fun v => (HC.out _ (HCV.out v)).2 7 (by omega)
      have zt9 : ∀ v : Bel W2.heap.size W2, v.v.cell? ⟨b1, o1 + 9, none⟩ = some (.int .i64 t.of_) := fun v => (HC.out _ (HCV.out v)).1 9 (by omega)
      have zu9 : ∀ v : Bel W2.heap.size W2, v.v.cell? ⟨b2, o2 + 9, none⟩ = some (.int .i64 t.of_) := by rw [HE9.out]; exact fun v => (HC.out _ (HCV.out v)).2 9 (by omega)
      have zt8 : ∀ v : Bel W2.heap.size W2, v.v.cell? ⟨b1, o1 + 8, none⟩ = some (.slice A1 na c1) := by rw [← HNA.out]; exact fun v => (HC.out _ (HCV.out v)).1 8 (by omega)
      have zu8 : ∀ v : Bel W2.heap.size W2, v.v.cell? ⟨b2, o2 + 8, none⟩ = some (.slice B1 na d1) := by rw [← HNB.out]; exact fun v => (HC.out _ (HCV.out v)).2 8 (by omega)
      have zt10 : ∀ v : Bel W2.heap.size W2, v.v.cell? ⟨b1, o1 + 10, none⟩ = some (.slice A2 t.src.length c2) := fun v => (HC.out _ (HCV.out v)).1 10 (by omega)
      have zu10 : ∀ v : Bel W2.heap.size W2, v.v.cell? ⟨b2, o2 + 10, none⟩ = some (.slice B2 u.src.length d2) := fun v => (HC.out _ (HCV.out v)).2 10 (by omega)
      refine wp_region_bel (by kernel_rfl) (by kernel_rfl) ?_
      repeat (go_big_quiet_step (first | (go_at_call 27; exact HSI.out _)))
      clear zt6 zu6 zt7 zu7 zt8 zu8 zt9 zu9 zt10 zu10
      refine wpQuiet_nil ?_
      rintro W3 ⟨v, rfl⟩
      have HB3 := Lib.hid (HCV.out v)
      have HT3 := Lib.hid (own_below HT2.out v.h)
      clear HB2 HT2 HCV HSI
      generalize v.v = W3 at HB3 HT3 ⊢
      have hna : na ≤ 100000 := by have := cnt_len t.kids; have := cntB_eq t; have := HNA.out; have := HCN.out; have := HN1.out; omega
      have HMN : Hid (m + na ≤ 100000) := by have := cnt_len t.kids; have := cntB_eq t; have := HNA.out; have := HCN.out; have := HN1.out; have := cntP_len S'; have := HM.out; show _ ≤ _; omega
      have HTU : Hid (t = u ↔ ∀ p ∈ PZ t.kids u.kids na, p.1 = p.2) := by
        refine Iff.trans ?_ (PZ_all t.kids u.kids na).symm
        exact ⟨fun e k _ => by rw [e], fun h => Bx.ext' HE0.out HE1.out HE2.out HE3.out HE4.out HE5.out HE6.out HE7.out (eq_of_kid (HNA.out.trans HNB.out.symm) (fun k hk => h k (by have := HNA.out; omega))) HE9.out HSR.out⟩
      have HA2 : Hid (a = b ↔ ∀ p ∈ S' ++ PZ t.kids u.kids na, p.1 = p.2) := HALL.out.trans ⟨fun h p hp => by
          rcases List.mem_append.1 hp with h1 | h1
          · exact h.1 p h1
          · exact HTU.out.1 h.2 p h1, fun h => ⟨fun p hp => h p (List.mem_append_left _ hp), HTU.out.2 fun p hp => h p (List.mem_append_right _ hp)⟩⟩
      have HC2 : Hid (cntP (S' ++ PZ t.kids u.kids na) = N - 1 ∧ 1 ≤ N) := by
        have h1 := HCN.out
        have h2 := cntB_eq t
        rw [cntP_append, cntP_PZ t.kids u.kids na (by have := HNA.out; omega), ← HNA.out, List.take_length]
        exact ⟨by omega, by omega⟩
      have HP2 : Hid (PStk W0 (w.heap.size + 2) (vs' ++ ppA A1 B1 na) (S' ++ PZ t.kids u.kids na)) := HST.out.append (by have := ppA_stk HK1.out HK2.out (HNA.out.trans HNB.out.symm); rw [HNA.out] at this; exact this)
      have HLN : Hid ((S' ++ PZ t.kids u.kids na).length = m + na) := by
        show _ = _
        rw [List.length_append, PZ_len, HM.out]
      have HZ : Hid (∀ X, Below (w.heap.size + 2) W0 X → X.cell? ⟨b1, o1 + 8, none⟩ = some (.slice A1 na c1) ∧ X.cell? ⟨b2, o2 + 8, none⟩ = some (.slice B1 na d1)) := fun X hX => by
        have h1 := (HC.out X hX).1 8 (by omega)
        have h2 := (HC.out X hX).2 8 (by omega)
        exact ⟨by rw [← HNA.out]; exact h1, by rw [← HNB.out]; exact h2⟩
      obtain ⟨z1, _⟩ := HZ.out W3 HB3.out
      clear HNE HALL HTU HC
      go_wp2_with fail
      clear z1
      go_loopw [158, 5] (fun q l wr => ∃ (i : Nat) (g3 : Addr) (c3 : Nat), i ≤ na ∧ q = .int .i64 (i : Int) ∧ l = .slice (some g3) (m + i) c3 ∧ wr.ownsRow (w.heap.size + 2) 49 2 (.slice (some g3) (m + i) c3) (m + i) (vs' ++ ppA A1 B1 i) ∧ Below (w.heap.size + 2) W0 wr) (fun q _ _ => na - (intOf q).toNat)
      case atStart => exact ⟨0, _, _, Nat.zero_le _, rfl, rfl, by rw [ppA_zero, List.append_nil]; exact HT3.out, HB3.out⟩
      case round =>
        obtain ⟨i, g3, c3, hi, rfl, rfl, hrow, hbw⟩ := hrel
        have HO := Lib.hid hrow
        have HBX := Lib.hid hbw
        have hsz : w.heap.size + 2 ≤ wr.heap.size := by have := hbw.size; have := HSZ.out; omega
        clear hrow hbw
        by_cases hlt : i < na
        · obtain ⟨k1, j1, _, _, _, _, rfl, _⟩ := HK1.out.at (i := i) (by have := HNA.out; omega)
          obtain ⟨k2, j2, _, _, _, _, rfl, _⟩ := HK2.out.at (i := i) (by have := HNB.out; omega)
          obtain ⟨z1, z2⟩ := HZ.out wr HBX.out
          go_wp2_with fail
          have HO2 := Lib.hid (own_below HO.out (Below.refl _ wr).drew)
          have HBX2 := Lib.hid HBX.out.drew
          have hsz2 : w.heap.size + 2 ≤ wr.drew.heap.size := hsz
          have z3 : wr.drew.cell? ⟨b1, o1 + 8, none⟩ = some (.slice (some ⟨k1, j1, none⟩) na c1) := z1
          have z4 : wr.drew.cell? ⟨b2, o2 + 8, none⟩ = some (.slice (some ⟨k2, j2, none⟩) na d1) := z2
          clear HO HBX z1 z2
          have HMN2 := HMN.out
          have HKS : Hid (ppA (some ⟨k1, j1, none⟩) (some ⟨k2, j2, none⟩) (i + 1) = ppA (some ⟨k1, j1, none⟩) (some ⟨k2, j2, none⟩) i ++ [.pointer (some ⟨k1, j1 + i * 11, none⟩), .pointer (some ⟨k2, j2 + i * 11, none⟩)]) := rfl
          go_region_law (refine step_append_el rfl (.tmp 161) (.tmp 175) 50 49 rfl i0 _ 2 16 Try.underlying50 hi0 hz0 hz1 hz2 rfl (by omega) rfl (own_below HO2.out (one_below _ _)) rfl (heap_alloc_new _ _) rfl (fun u hu => by simp at hu; rcases hu with rfl | rfl <;> rfl) (by unfold maxLen; omega) (by omega) (by simp; omega) ?_; intro A5 c5 w5 hown5 hb5; have HO5 := Lib.hid hown5; have HB5 := Lib.hid hb5; clear hown5 hb5)
          all_goals
            go_wp2_with fail
            obtain ⟨g5, e5, _⟩ := own_cell HO5.out (by omega)
            subst e5
            go_roundw
            case rel => exact ⟨i + 1, _, _, by omega, by go_num, rfl, by rw [HKS.out, ← List.append_assoc]; exact HO5.out, (HBX2.out.alloc hsz2 _).trans HB5.out⟩
            case measure => simp [intOf]; omega
        · obtain rfl : i = na := by omega
          have HRQ2 : Hid (RQ w W0 a b (N - 1) (.slice (some g3) (m + i) c3) wr) := ⟨S' ++ PZ t.kids u.kids i, vs' ++ ppA A1 B1 i, g3, c3, by rw [HLN.out], by rw [HLN.out]; exact HO.out, HP2.out, HC2.out.1, by have := HN1.out; omega, HA2.out, HBX.out⟩
          go_wp2_with fail
          go_roundw
          case rel => exact ⟨_, HRQ2.out⟩
          case measure => exact Nat.lt_of_le_of_lt (leastN_le HRQ2.out) (by rw [HN.out]; have := HC2.out.2; omega)
end Go.Proofs.Ytlgnghehgcoccaa
