/- The reference's Equal. -/
import Derived.Test.YtjckbdbjcgjcaaaBoxSame
import Derived.Test.YtjckbdbjcgjcaaaM1
namespace Go.Proofs.Ytjckbdbjcgjcaaa
open Go.RowKit
theorem nm_ne {a b : ByteArray} (h : a ≠ b) : a.toList ≠ b.toList := fun e => h (by
  rw [ByteArray.toList_eq, ByteArray.toList_eq] at e
  cases a; cases b
  exact congrArg _ (Array.toList_inj.1 e))
theorem eq_of_kid {a b : List Bx} (hl : a.length = b.length) (h : ∀ k, k < a.length → kidAt a k = kidAt b k) : a = b := by
  refine List.ext_getElem hl fun k h1 h2 => ?_
  have := h k h1
  simpa [kidAt, List.getD, h1, h2] using this
set_option maxRecDepth 100000 in
set_option maxHeartbeats 4000000 in
theorem requal_any : ∀ (n : Nat) (r : Bool) (a b : Bx), cntB a ≤ n → lens a → lens b → (r = true ↔ a = b) → ∀ (A : Option Addr) (c : Nat) (A' : Option Addr) (c' : Nat) (B : Option Addr) (d : Nat) (B' : Option Addr) (d' : Nat) (w : World), Kids w 0 w.heap.size A a.kids → Ints w 0 w.heap.size A' a.src → Kids w 0 w.heap.size B b.kids → Ints w 0 w.heap.size B' b.src →
    Calls Try.prog 14 #[.agg (bxA a A c A' c'), .agg (bxA b B d B' d')] w fun e w' => e = .returned (.bool r) ∧ Below w.heap.size w w' := by
  intro n
  induction n with
  | zero => intro r a b h; have := cntB_pos a; omega
  | succ n ih =>
    intro r a b hn hla hlb hr A c A' c' B d B' d' w hKA hIA hKB hIB
    have HR := Lib.hid hr
    have HLA := Lib.hid hla
    have HLB := Lib.hid hlb
    have HK0 := Lib.hid (And.intro hKA (And.intro hIA (And.intro hKB hIB)))
    have HN := Lib.hid hn
    have HIH := Lib.hid ih
    clear hr hla hlb hKA hIA hKB hIB hn ih
    obtain ⟨na, hna⟩ : ∃ na, a.kids.length = na := ⟨_, rfl⟩
    obtain ⟨nb, hnb⟩ : ∃ nb, b.kids.length = nb := ⟨_, rfl⟩
    have HNA := Lib.hid hna
    have HNB := Lib.hid hnb
    have EA : bxA a A c A' c' = #[.int .i64 a.k, .string a.nm, .int .i64 a.sz, .int .i64 a.w, .int .i64 a.h, .int .i64 a.d, .int .i64 a.x, .int .i64 a.y, .slice A na c, .int .i64 a.of_, .slice A' a.src.length c'] := by rw [← hna]
    clear hna hnb
    rw [EA]
    clear EA
    by_cases h0 : a.k = b.k
    case neg =>
      have HE := Lib.hid h0
      have q1 : (a.k != b.k) = true := by simp [h0]
      have q2 : (a.k == b.k) = false := by simp [h0]
      clear h0
      have EB : bxA b B d B' d' = #[.int .i64 b.k, .string b.nm, .int .i64 b.sz, .int .i64 b.w, .int .i64 b.h, .int .i64 b.d, .int .i64 b.x, .int .i64 b.y, .slice B nb d, .int .i64 b.of_, .slice B' b.src.length d'] := by rw [← HNB.out]
      rw [EB]
      clear EB
      go_enter Try.func14, Try.ntmps14
      go_wp2
      go_ret
      exact ⟨ret_bool (is_false HR.out (fun e => HE.out (by rw [e]))), two_below _ _ _⟩
    have HE0 := Lib.hid h0
    clear h0
    by_cases h1 : a.nm = b.nm
    case neg =>
      have HE := Lib.hid h1
      have q1 : (a.nm.toList != b.nm.toList) = true := by simp [nm_ne h1]
      have q2 : (a.nm.toList == b.nm.toList) = false := by simp [nm_ne h1]
      clear h1
      have EB : bxA b B d B' d' = #[.int .i64 a.k, .string b.nm, .int .i64 b.sz, .int .i64 b.w, .int .i64 b.h, .int .i64 b.d, .int .i64 b.x, .int .i64 b.y, .slice B nb d, .int .i64 b.of_, .slice B' b.src.length d'] := by rw [HE0.out, ← HNB.out]
      rw [EB]
      clear EB
      go_enter Try.func14, Try.ntmps14
      go_wp2
      go_ret
      exact ⟨ret_bool (is_false HR.out (fun e => HE.out (by rw [e]))), two_below _ _ _⟩
    have HE1 := Lib.hid h1
    clear h1
    by_cases h2 : a.sz = b.sz
    case neg =>
      have HE := Lib.hid h2
      have q1 : (a.sz != b.sz) = true := by simp [h2]
      have q2 : (a.sz == b.sz) = false := by simp [h2]
      clear h2
      have EB : bxA b B d B' d' = #[.int .i64 a.k, .string a.nm, .int .i64 b.sz, .int .i64 b.w, .int .i64 b.h, .int .i64 b.d, .int .i64 b.x, .int .i64 b.y, .slice B nb d, .int .i64 b.of_, .slice B' b.src.length d'] := by rw [HE0.out, HE1.out, ← HNB.out]
      rw [EB]
      clear EB
      go_enter Try.func14, Try.ntmps14
      go_wp2
      go_ret
      exact ⟨ret_bool (is_false HR.out (fun e => HE.out (by rw [e]))), two_below _ _ _⟩
    have HE2 := Lib.hid h2
    clear h2
    by_cases h3 : a.w = b.w
    case neg =>
      have HE := Lib.hid h3
      have q1 : (a.w != b.w) = true := by simp [h3]
      have q2 : (a.w == b.w) = false := by simp [h3]
      clear h3
      have EB : bxA b B d B' d' = #[.int .i64 a.k, .string a.nm, .int .i64 a.sz, .int .i64 b.w, .int .i64 b.h, .int .i64 b.d, .int .i64 b.x, .int .i64 b.y, .slice B nb d, .int .i64 b.of_, .slice B' b.src.length d'] := by rw [HE0.out, HE1.out, HE2.out, ← HNB.out]
      rw [EB]
      clear EB
      go_enter Try.func14, Try.ntmps14
      go_wp2
      go_ret
      exact ⟨ret_bool (is_false HR.out (fun e => HE.out (by rw [e]))), two_below _ _ _⟩
    have HE3 := Lib.hid h3
    clear h3
    by_cases h4 : a.h = b.h
    case neg =>
      have HE := Lib.hid h4
      have q1 : (a.h != b.h) = true := by simp [h4]
      have q2 : (a.h == b.h) = false := by simp [h4]
      clear h4
      have EB : bxA b B d B' d' = #[.int .i64 a.k, .string a.nm, .int .i64 a.sz, .int .i64 a.w, .int .i64 b.h, .int .i64 b.d, .int .i64 b.x, .int .i64 b.y, .slice B nb d, .int .i64 b.of_, .slice B' b.src.length d'] := by rw [HE0.out, HE1.out, HE2.out, HE3.out, ← HNB.out]
      rw [EB]
      clear EB
      go_enter Try.func14, Try.ntmps14
      go_wp2
      go_ret
      exact ⟨ret_bool (is_false HR.out (fun e => HE.out (by rw [e]))), two_below _ _ _⟩
    have HE4 := Lib.hid h4
    clear h4
    by_cases h5 : a.d = b.d
    case neg =>
      have HE := Lib.hid h5
      have q1 : (a.d != b.d) = true := by simp [h5]
      have q2 : (a.d == b.d) = false := by simp [h5]
      clear h5
      have EB : bxA b B d B' d' = #[.int .i64 a.k, .string a.nm, .int .i64 a.sz, .int .i64 a.w, .int .i64 a.h, .int .i64 b.d, .int .i64 b.x, .int .i64 b.y, .slice B nb d, .int .i64 b.of_, .slice B' b.src.length d'] := by rw [HE0.out, HE1.out, HE2.out, HE3.out, HE4.out, ← HNB.out]
      rw [EB]
      clear EB
      go_enter Try.func14, Try.ntmps14
      go_wp2
      go_ret
      exact ⟨ret_bool (is_false HR.out (fun e => HE.out (by rw [e]))), two_below _ _ _⟩
    have HE5 := Lib.hid h5
    clear h5
    by_cases h6 : a.x = b.x
    case neg =>
      have HE := Lib.hid h6
      have q1 : (a.x != b.x) = true := by simp [h6]
      have q2 : (a.x == b.x) = false := by simp [h6]
      clear h6
      have EB : bxA b B d B' d' = #[.int .i64 a.k, .string a.nm, .int .i64 a.sz, .int .i64 a.w, .int .i64 a.h, .int .i64 a.d, .int .i64 b.x, .int .i64 b.y, .slice B nb d, .int .i64 b.of_, .slice B' b.src.length d'] := by rw [HE0.out, HE1.out, HE2.out, HE3.out, HE4.out, HE5.out, ← HNB.out]
      rw [EB]
      clear EB
      go_enter Try.func14, Try.ntmps14
      go_wp2
      go_ret
      exact ⟨ret_bool (is_false HR.out (fun e => HE.out (by rw [e]))), two_below _ _ _⟩
    have HE6 := Lib.hid h6
    clear h6
    by_cases h7 : a.y = b.y
    case neg =>
      have HE := Lib.hid h7
      have q1 : (a.y != b.y) = true := by simp [h7]
      have q2 : (a.y == b.y) = false := by simp [h7]
      clear h7
      have EB : bxA b B d B' d' = #[.int .i64 a.k, .string a.nm, .int .i64 a.sz, .int .i64 a.w, .int .i64 a.h, .int .i64 a.d, .int .i64 a.x, .int .i64 b.y, .slice B nb d, .int .i64 b.of_, .slice B' b.src.length d'] := by rw [HE0.out, HE1.out, HE2.out, HE3.out, HE4.out, HE5.out, HE6.out, ← HNB.out]
      rw [EB]
      clear EB
      go_enter Try.func14, Try.ntmps14
      go_wp2
      go_ret
      exact ⟨ret_bool (is_false HR.out (fun e => HE.out (by rw [e]))), two_below _ _ _⟩
    have HE7 := Lib.hid h7
    clear h7
    by_cases h9 : a.of_ = b.of_
    case neg =>
      have HE := Lib.hid h9
      have q1 : (a.of_ != b.of_) = true := by simp [h9]
      have q2 : (a.of_ == b.of_) = false := by simp [h9]
      clear h9
      have EB : bxA b B d B' d' = #[.int .i64 a.k, .string a.nm, .int .i64 a.sz, .int .i64 a.w, .int .i64 a.h, .int .i64 a.d, .int .i64 a.x, .int .i64 a.y, .slice B nb d, .int .i64 b.of_, .slice B' b.src.length d'] := by rw [HE0.out, HE1.out, HE2.out, HE3.out, HE4.out, HE5.out, HE6.out, HE7.out, ← HNB.out]
      rw [EB]
      clear EB
      go_enter Try.func14, Try.ntmps14
      go_wp2
      go_ret
      exact ⟨ret_bool (is_false HR.out (fun e => HE.out (by rw [e]))), two_below _ _ _⟩
    have HE9 := Lib.hid h9
    clear h9
    have EB : bxA b B d B' d' = #[.int .i64 a.k, .string a.nm, .int .i64 a.sz, .int .i64 a.w, .int .i64 a.h, .int .i64 a.d, .int .i64 a.x, .int .i64 a.y, .slice B nb d, .int .i64 a.of_, .slice B' b.src.length d'] := by rw [HE0.out, HE1.out, HE2.out, HE3.out, HE4.out, HE5.out, HE6.out, HE7.out, HE9.out, ← HNB.out]
    rw [EB]
    clear EB
    go_enter Try.func14, Try.ntmps14
    go_wp2_with fail
    obtain ⟨d0, d1, hsz, hb⟩ := two_boxes w #[.int .i64 a.k, .string a.nm, .int .i64 a.sz, .int .i64 a.w, .int .i64 a.h, .int .i64 a.d, .int .i64 a.x, .int .i64 a.y, .slice A na c, .int .i64 a.of_, .slice A' a.src.length c'] #[.int .i64 a.k, .string a.nm, .int .i64 a.sz, .int .i64 a.w, .int .i64 a.h, .int .i64 a.d, .int .i64 a.x, .int .i64 a.y, .slice B nb d, .int .i64 a.of_, .slice B' b.src.length d'] 28 28
    generalize ((w.alloc (.cells #[.int .i64 a.k, .string a.nm, .int .i64 a.sz, .int .i64 a.w, .int .i64 a.h, .int .i64 a.d, .int .i64 a.x, .int .i64 a.y, .slice A na c, .int .i64 a.of_, .slice A' a.src.length c'] 28)).alloc (.cells #[.int .i64 a.k, .string a.nm, .int .i64 a.sz, .int .i64 a.w, .int .i64 a.h, .int .i64 a.d, .int .i64 a.x, .int .i64 a.y, .slice B nb d, .int .i64 a.of_, .slice B' b.src.length d'] 28)) = W0 at d0 d1 hsz hb ⊢
    have HB0 := Lib.hid hb
    have HD0 := Lib.hid d0
    have HD1 := Lib.hid d1
    have HSZ := Lib.hid hsz
    have HKW : Hid (∀ X, Below W0.heap.size W0 X → Kids X 0 X.heap.size A a.kids ∧ Ints X 0 X.heap.size A' a.src ∧ Kids X 0 X.heap.size B b.kids ∧ Ints X 0 X.heap.size B' b.src) := fun X hX => by
      have hh := below_next HB0.out hX
      exact ⟨HK0.out.1.next hh, HK0.out.2.1.next hh, HK0.out.2.2.1.next hh, HK0.out.2.2.2.next hh⟩
    have HDX : Hid (∀ X, Below W0.heap.size W0 X → X.cell? ⟨w.heap.size, 8, none⟩ = some (.slice A na c) ∧ X.cell? ⟨w.heap.size + 1, 8, none⟩ = some (.slice B nb d)) := fun X hX => by
      have := HSZ.out
      exact ⟨blk_cell ((hX.block _ (by omega)).trans HD0.out) 8 _ rfl, blk_cell ((hX.block _ (by omega)).trans HD1.out) 8 _ rfl⟩
    clear d0 d1 hsz hb HD0 HD1 HK0
    obtain ⟨rs, hrs⟩ := bool_of (a.src = b.src)
    obtain ⟨_, h1, _, h2⟩ := HKW.out W0 (Below.refl _ _)
    refine (rsame_any A' B' c' d' a.src b.src W0 hrs HLA.out.2.1 HLB.out.2.1 h1 h2).mono ?_
    rintro e W1 ⟨rfl, hb1⟩
    have HRS := Lib.hid hrs
    have HV := Lib.hid hb1
    obtain ⟨z1, z2⟩ := HDX.out W1 hb1
    clear hrs h1 h2 hb1
    cases rs with
    | false =>
      go_wp2
      go_ret
      exact ⟨ret_bool (is_false HR.out (fun e => by have := HRS.out.2 (by rw [e]); cases this)), below_next HB0.out HV.out⟩
    | true =>
      have HSR : Hid (a.src = b.src) := HRS.out.1 rfl
      by_cases hk : na = nb
      case neg =>
        have HE := Lib.hid hk
        have q1 : ((na : Int) != (nb : Int)) = true := by simp; omega
        have q2 : ((na : Int) == (nb : Int)) = false := by simp; omega
        clear hk
        go_wp2
        go_ret
        exact ⟨ret_bool (is_false HR.out (fun e => HE.out (by rw [← HNA.out, ← HNB.out, e]))), below_next HB0.out HV.out⟩
      subst hk
      have hna : na ≤ 9223372036854775807 := by have := HLA.out.2.2; have := HNA.out; unfold lenMax at *; omega
      have HW1 : Hid (∀ X, Below W1.heap.size W1 X → Below W0.heap.size W0 X) := fun X hX => below_next HV.out hX
      go_wp2_with fail
      clear z1 z2
      go_loopw [5] (fun q wr => ∃ k : Nat, k ≤ na ∧ q = .int .i64 (k : Int) ∧ (∀ m, m < k → kidAt a.kids m = kidAt b.kids m) ∧ Below W1.heap.size W1 wr) (fun q _ => na - (intOf q).toNat)
      case atStart => exact ⟨0, Nat.zero_le _, rfl, fun m hm => absurd hm (Nat.not_lt_zero _), Below.refl _ _⟩
      case round =>
        obtain ⟨k, hk, rfl, hall, hbw⟩ := hrel
        have HALL := Lib.hid hall
        have HBW := Lib.hid (HW1.out _ hbw)
        have HBW1 := Lib.hid hbw
        clear hall hbw
        have z0 := (HDX.out wr HBW.out).1
        by_cases hlt : k < na
        · obtain ⟨bA, oA, A1, c1, A2, c2, rfl, _, hbA, hatA, hkA, hiA, hlA⟩ := (HKW.out wr HBW.out).1.at (i := k) (by have := HNA.out; omega)
          obtain ⟨bB, oB, B1, d1, B2, d2, rfl, _, hbB, hatB, hkB, hiB, hlB⟩ := (HKW.out wr HBW.out).2.2.1.at (i := k) (by have := HNB.out; omega)
          have HCA : Hid (∀ v : Bel wr.heap.size wr, BoxAt v.v bA (oA + k * 11) (kidAt a.kids k) A1 c1 A2 c2 ∧ BoxAt v.v bB (oB + k * 11) (kidAt b.kids k) B1 d1 B2 d2) := fun v => ⟨hatA.below v.h hbA, hatB.below v.h hbB⟩
          obtain ⟨rk, hrk⟩ := bool_of (kidAt a.kids k = kidAt b.kids k)
          have HRK := Lib.hid hrk
          have HEQ : Hid (∀ v : Bel wr.heap.size wr, Calls Try.prog 14 #[.agg (bxA (kidAt a.kids k) A1 c1 A2 c2), .agg (bxA (kidAt b.kids k) B1 d1 B2 d2)] v.v fun e w' => e = .returned (.bool rk) ∧ ∃ v' : Bel wr.heap.size wr, w' = v'.v) := fun v => by
            refine (HIH.out rk (kidAt a.kids k) (kidAt b.kids k) (by have := cnt_kid a.kids (i := k) (by have := HNA.out; omega); have := cntB_eq a; have := HN.out; omega) hlA hlB hrk A1 c1 A2 c2 B1 d1 B2 d2 v.v (hkA.next v.h) (hiA.next v.h) (hkB.next v.h) (hiB.next v.h)).mono ?_
            rintro e w' ⟨he, hb⟩
            exact ⟨he, ⟨w', below_next v.h hb⟩, rfl⟩
          clear hatA hkA hiA hlA hatB hkB hiB hlB hrk
          have za8 : ∀ v : Bel wr.heap.size wr, v.v.cell? ⟨w.heap.size, 8, none⟩ = some (.slice (some ⟨bA, oA, none⟩) na c) := fun v => (HDX.out v.v (below_next HBW.out v.h)).1
          have zb8 : ∀ v : Bel wr.heap.size wr, v.v.cell? ⟨w.heap.size + 1, 8, none⟩ = some (.slice (some ⟨bB, oB, none⟩) na d) := fun v => (HDX.out v.v (below_next HBW.out v.h)).2
          generalize hu : kidAt a.kids k = u at HCA HEQ HRK
          generalize hv : kidAt b.kids k = t at HCA HEQ HRK
          have HU := Lib.hid hu
          have HT := Lib.hid hv
          clear hu hv
          have zu0 : ∀ v : Bel wr.heap.size wr, v.v.cell? ⟨bA, oA + k * 11, none⟩ = some (.int .i64 u.k) := fun v => (HCA.out v).1 0 (by omega)
          have zu1 : ∀ v : Bel wr.heap.size wr, v.v.cell? ⟨bA, oA + k * 11 + 1, none⟩ = some (.string u.nm) := fun v => (HCA.out v).1 1 (by omega)
          have zu2 : ∀ v : Bel wr.heap.size wr, v.v.cell? ⟨bA, oA + k * 11 + 2, none⟩ = some (.int .i64 u.sz) := fun v => (HCA.out v).1 2 (by omega)
          have zu3 : ∀ v : Bel wr.heap.size wr, v.v.cell? ⟨bA, oA + k * 11 + 3, none⟩ = some (.int .i64 u.w) := fun v => (HCA.out v).1 3 (by omega)
          have zu4 : ∀ v : Bel wr.heap.size wr, v.v.cell? ⟨bA, oA + k * 11 + 4, none⟩ = some (.int .i64 u.h) := fun v => (HCA.out v).1 4 (by omega)
          have zu5 : ∀ v : Bel wr.heap.size wr, v.v.cell? ⟨bA, oA + k * 11 + 5, none⟩ = some (.int .i64 u.d) := fun v => (HCA.out v).1 5 (by omega)
          have zu6 : ∀ v : Bel wr.heap.size wr, v.v.cell? ⟨bA, oA + k * 11 + 6, none⟩ = some (.int .i64 u.x) := fun v => (HCA.out v).1 6 (by omega)
          have zu7 : ∀ v : Bel wr.heap.size wr, v.v.cell? ⟨bA, oA + k * 11 + 7, none⟩ = some (.int .i64 u.y) := fun v => (HCA.out v).1 7 (by omega)
          have zu8 : ∀ v : Bel wr.heap.size wr, v.v.cell? ⟨bA, oA + k * 11 + 8, none⟩ = some (.slice A1 u.kids.length c1) := fun v => (HCA.out v).1 8 (by omega)
          have zu9 : ∀ v : Bel wr.heap.size wr, v.v.cell? ⟨bA, oA + k * 11 + 9, none⟩ = some (.int .i64 u.of_) := fun v => (HCA.out v).1 9 (by omega)
          have zu10 : ∀ v : Bel wr.heap.size wr, v.v.cell? ⟨bA, oA + k * 11 + 10, none⟩ = some (.slice A2 u.src.length c2) := fun v => (HCA.out v).1 10 (by omega)
          have zt0 : ∀ v : Bel wr.heap.size wr, v.v.cell? ⟨bB, oB + k * 11, none⟩ = some (.int .i64 t.k) := fun v => (HCA.out v).2 0 (by omega)
          have zt1 : ∀ v : Bel wr.heap.size wr, v.v.cell? ⟨bB, oB + k * 11 + 1, none⟩ = some (.string t.nm) := fun v => (HCA.out v).2 1 (by omega)
          have zt2 : ∀ v : Bel wr.heap.size wr, v.v.cell? ⟨bB, oB + k * 11 + 2, none⟩ = some (.int .i64 t.sz) := fun v => (HCA.out v).2 2 (by omega)
          have zt3 : ∀ v : Bel wr.heap.size wr, v.v.cell? ⟨bB, oB + k * 11 + 3, none⟩ = some (.int .i64 t.w) := fun v => (HCA.out v).2 3 (by omega)
          have zt4 : ∀ v : Bel wr.heap.size wr, v.v.cell? ⟨bB, oB + k * 11 + 4, none⟩ = some (.int .i64 t.h) := fun v => (HCA.out v).2 4 (by omega)
          have zt5 : ∀ v : Bel wr.heap.size wr, v.v.cell? ⟨bB, oB + k * 11 + 5, none⟩ = some (.int .i64 t.d) := fun v => (HCA.out v).2 5 (by omega)
          have zt6 : ∀ v : Bel wr.heap.size wr, v.v.cell? ⟨bB, oB + k * 11 + 6, none⟩ = some (.int .i64 t.x) := fun v => (HCA.out v).2 6 (by omega)
          have zt7 : ∀ v : Bel wr.heap.size wr, v.v.cell? ⟨bB, oB + k * 11 + 7, none⟩ = some (.int .i64 t.y) := fun v => (HCA.out v).2 7 (by omega)
          have zt8 : ∀ v : Bel wr.heap.size wr, v.v.cell? ⟨bB, oB + k * 11 + 8, none⟩ = some (.slice B1 t.kids.length d1) := fun v => (HCA.out v).2 8 (by omega)
          have zt9 : ∀ v : Bel wr.heap.size wr, v.v.cell? ⟨bB, oB + k * 11 + 9, none⟩ = some (.int .i64 t.of_) := fun v => (HCA.out v).2 9 (by omega)
          have zt10 : ∀ v : Bel wr.heap.size wr, v.v.cell? ⟨bB, oB + k * 11 + 10, none⟩ = some (.slice B2 t.src.length d2) := fun v => (HCA.out v).2 10 (by omega)
          cases rk with
          | false =>
            go_wp2_with fail
            refine wp_region_bel (by kernel_rfl) (by kernel_rfl) ?_
            repeat (go_big_quiet_step (first | (go_at_call 14; exact HEQ.out _)))
            clear za8 zb8 zu0 zt0 zu1 zt1 zu2 zt2 zu3 zt3 zu4 zt4 zu5 zt5 zu6 zt6 zu7 zt7 zu8 zt8 zu9 zt9 zu10 zt10
            refine wpQuiet_nil ?_
            rintro W2 ⟨v, rfl⟩
            go_wp2
            go_ret
            exact ⟨ret_bool (is_false HR.out (fun e => by have := HRK.out.2 (by rw [← HU.out, ← HT.out, e]); cases this)), below_next HB0.out (below_next HBW.out v.h)⟩
          | true =>
            have HUT : Hid (u = t) := HRK.out.1 rfl
            clear HRK
            go_wp2_with fail
            refine wp_region_bel (by kernel_rfl) (by kernel_rfl) ?_
            repeat (go_big_quiet_step (first | (go_at_call 14; exact HEQ.out _)))
            clear za8 zb8 zu0 zt0 zu1 zt1 zu2 zt2 zu3 zt3 zu4 zt4 zu5 zt5 zu6 zt6 zu7 zt7 zu8 zt8 zu9 zt9 zu10 zt10
            refine wpQuiet_nil ?_
            rintro W2 ⟨v, rfl⟩
            go_wp2_with fail
            go_roundw
            case rel => exact ⟨k + 1, by omega, by go_num, fun m hm => by rcases Nat.lt_succ_iff_lt_or_eq.1 hm with h | rfl; exact HALL.out m h; rw [HU.out, HT.out]; exact HUT.out, below_next HBW1.out v.h⟩
            case measure => simp [intOf]; omega
        · obtain rfl : k = na := by omega
          go_wp2
          go_ret
          refine ⟨ret_bool (is_true HR.out (Bx.ext' HE0.out HE1.out HE2.out HE3.out HE4.out HE5.out HE6.out HE7.out (eq_of_kid (HNA.out.trans HNB.out.symm) (fun m hm => HALL.out m (by have := HNA.out; omega))) HE9.out HSR.out)), below_next HB0.out HBW.out⟩
end Go.Proofs.Ytjckbdbjcgjcaaa
