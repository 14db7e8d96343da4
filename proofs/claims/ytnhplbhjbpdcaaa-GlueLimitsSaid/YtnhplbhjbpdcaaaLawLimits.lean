/- The walk of GlueLimits. -/
import Derived.Test.YtnhplbhjbpdcaaaLawExact
import Derived.BigQuiet
namespace Go.Proofs.Ytnhplbhjbpdcaaa
open Go.RowKit
/-- A world in which all below b lies as in W (a structure of its own, so that simp leaves it whole). -/
structure Bel (b : Nat) (W : World) where
  v : World
  h : Below b W v
instance {b : Nat} {W : World} : Nonempty (Bel b W) := ⟨⟨W, Below.refl _ _⟩⟩
/-- A region that draws its order, whose callees make memory and change nothing that was there. -/
theorem wp_region_bel {P : Program} {id : Nat} {Q : Exit → Act → World → Prop} {a : Act} {w : World} {l : List Oper} (hm : P.follows .mixedOrders = true) (hB : Region.lexB .any l.toArray = true)
    (h : wpQuiet P l.toArray (fun w' => ∃ v : Bel w.heap.size w, w' = v.v) (fun a' => ∀ w', (∃ v : Bel w.heap.size w, w' = v.v) → Q .normal a' w') l a) : (Code.region id l.toArray true).wp P Q a w :=
  wp_region_quiet (C := fun w' => ∃ v : Bel w.heap.size w, w' = v.v) hm hB ⟨⟨_, (Below.refl _ _).drew⟩, rfl⟩ (by simpa using h)
theorem mul_bd {a b A B : Int} (h1 : -A ≤ a) (h2 : a ≤ A) (h3 : 0 ≤ b) (h4 : b ≤ B) : -(A * B) ≤ a * b ∧ a * b ≤ A * B := by
  have x1 := Int.mul_le_mul_of_nonneg_right h2 h3
  have x2 := Int.mul_le_mul_of_nonneg_right h1 h3
  have x3 := Int.mul_le_mul_of_nonneg_left h4 (show 0 ≤ A by omega)
  rw [Int.neg_mul] at x2
  omega
/-- What an element is held against: its part, and the sum of the parts. -/
def pV (l : List Gl) (e : Int) (k : Nat) : Int := if 0 ≤ e then stO l (ordZ l) k else shAt l k
def tV (l : List Gl) (e : Int) : Int := if 0 ≤ e then strV l (ordZ l) else shrV l
def xV (l : List Gl) (e : Int) (k : Nat) : Int := (e - restV l e) * pV l e k - (setV l e k - wdAt l k) * tV l e
theorem limits_k {l : List Gl} (hv : VG l) {e : Int} (h0 : -1283457024 ≤ e) (h1 : e ≤ 1283457024) {k : Nat} (hk : k < l.length) :
    (-shAt l k ≤ setV l e k - wdAt l k ∧ (0 ≤ e → 0 ≤ setV l e k - wdAt l k) ∧ (e ≤ 0 → setV l e k - wdAt l k ≤ 0)) ∧ (tV l e = 0 → setV l e k - wdAt l k = 0) ∧ (tV l e ≠ 0 → xV l e k < tV l e ∧ -tV l e < xV l e k) ∧
    (0 ≤ pV l e k ∧ pV l e k ≤ 1048576 ∧ 0 ≤ tV l e ∧ tV l e ≤ 209715200) ∧
    (IntKind.i64.wrap (e - restV l e) = e - restV l e ∧ IntKind.i64.wrap (setV l e k - wdAt l k) = setV l e k - wdAt l k) ∧ IntKind.i64.wrap ((e - restV l e) * pV l e k) = (e - restV l e) * pV l e k ∧ IntKind.i64.wrap ((setV l e k - wdAt l k) * tV l e) = (setV l e k - wdAt l k) * tV l e ∧ IntKind.i64.wrap (xV l e k) = xV l e k := by
  have hL := limits_law hv e hk
  have hr := restV_in hv h0 h1
  have hs := setV_in hv h0 h1 hk
  have hg := hv.2 k hk
  unfold okG at hg
  have hp : 0 ≤ pV l e k ∧ pV l e k ≤ 1048576 := by
    unfold pV
    split
    · exact stO_range hv _ hk
    · omega
  have ht : 0 ≤ tV l e ∧ tV l e ≤ 209715200 := by
    unfold tV
    split
    · exact str_bound hv _ (Nat.le_refl _)
    · exact shr_bound hv (Nat.le_refl _)
  have m1 := mul_bd (A := 2566914048) (B := 1048576) (a := e - restV l e) (b := pV l e k) (by omega) (by omega) hp.1 hp.2
  have m2 := mul_bd (A := 2149580799) (B := 209715200) (a := setV l e k - wdAt l k) (b := tV l e) (by omega) (by omega) ht.1 ht.2
  have hN : NearP (e - restV l e) (pV l e k) (tV l e) (setV l e k - wdAt l k) := by
    unfold pV tV
    by_cases he : 0 ≤ e
    · rw [if_pos he, if_pos he]; exact hL.2.2.2.1 he
    · rw [if_neg he, if_neg he]; exact hL.2.2.2.2 (by omega)
  refine ⟨⟨hL.1, hL.2.1, hL.2.2.1⟩, hN.1, hN.2, ⟨hp.1, hp.2, ht.1, ht.2⟩, ⟨IntWalk.i64_in _ (by omega), IntWalk.i64_in _ (by omega)⟩, IntWalk.i64_in _ (by omega), IntWalk.i64_in _ (by omega), ?_⟩
  unfold xV
  exact IntWalk.i64_in _ (by omega)
set_option maxRecDepth 100000 in
set_option maxHeartbeats 2000000 in
theorem glueLimits_walk (A : Option Addr) (c : Nat) (l : List Gl) (wd : Int) (w : World) (hm : l.length ≤ lenMax) (hP : Gls w w.heap.size A l) :
    Calls Try.prog 7 #[.slice A l.length c, .int .i64 wd] w fun e w' => e = .returned (.bool true) ∧ Below w.heap.size w w' := by
  have HM := Lib.hid hm
  have HP := Lib.hid hP
  clear hm hP
  by_cases hok : VG l ∧ rngW wd
  · obtain ⟨hv, hw⟩ := hok
    have hl := hv.1
    have hei := e_in hv hw
    obtain ⟨e, he⟩ : ∃ e, wd - natV l = e := ⟨_, rfl⟩
    rw [he] at hei
    have HLK : Hid (∀ k, k < l.length → _) := fun k hk => limits_k hv hei.1 hei.2 hk
    obtain ⟨f, hf⟩ : ∃ f, setV l e = f := ⟨_, rfl⟩
    obtain ⟨r, hr⟩ : ∃ r, restV l e = r := ⟨_, rfl⟩
    obtain ⟨n, hn⟩ : ∃ n, natV l = n := ⟨_, rfl⟩
    obtain ⟨o, ho⟩ : ∃ o, ordZ l = o := ⟨_, rfl⟩
    obtain ⟨T, hT⟩ : ∃ T, tV l e = T := ⟨_, rfl⟩
    have HN : Hid (natZ l = n) := (natZ_ok hv).trans hn
    have HSH : Hid (e < 0 → shrZ l = T) := fun h => (shrZ_ok hv).trans (by rw [← hT]; unfold tV; rw [if_neg (by omega)])
    have HST : Hid (0 ≤ e → strZ l o = T) := fun h => (strZ_ok hv o).trans (by rw [← hT]; unfold tV; rw [if_pos h, ho])
    obtain ⟨z, hz⟩ : ∃ z, shrZ l = z := ⟨_, rfl⟩
    have HZ := Lib.hid hz
    have s0 : IntKind.i64.wrap (wd - n) = e := by rw [IntWalk.i64_in _ (by omega)]; omega
    have HV := Lib.hid hv
    have HO := Lib.hid ho
    have HR := Lib.hid (And.intro (show setV l (wd - natV l) = f by rw [he]; exact hf) (And.intro (show restV l (wd - natV l) = r by rw [he]; exact hr) hw))
    have HFR := Lib.hid (And.intro hf (And.intro hr hT))
    clear hei hf hr hn ho hT hv hw he hz
    have HRT : Hid (VG l ∧ rngW wd) := ⟨HV.out, HR.out.2.2⟩
    go_enter Try.func7, Try.ntmps7
    go_wp2_with fail
    refine (gawake_any _).mono ?_
    rintro e w1 ⟨rfl, hb1⟩
    have HB1 := Lib.hid hb1
    clear hb1
    go_wp2_with fail
    refine (right_any (r := true) _ _ l _ _ (yes_iff HRT.out) HM.out (HP.out.next HB1.out)).mono ?_
    rintro e w2 ⟨rfl, hb2⟩
    have HB2 := Lib.hid (below_next HB1.out hb2)
    clear hb2 HB1
    go_wp2_with fail
    refine (gset_ok _ _ l _ _ HV.out HR.out.2.2 HR.out.1 HR.out.2.1 rfl (HP.out.next HB2.out)).mono ?_
    rintro e w3 ⟨⟨A3, c3, rfl, hI3⟩, hb3⟩
    have HI3 := Lib.hid hI3
    have HB3 := Lib.hid (below_next HB2.out hb3)
    clear hb3 HB2 hI3
    go_wp2_with fail
    refine (rnat_any _ _ l _ HN.out HM.out (HP.out.next HB3.out)).mono ?_
    rintro e w4 ⟨rfl, hb4⟩
    have HI4 : Hid (Ints w4 w4.heap.size A3 (mapN f l.length)) := HI3.out.next hb4
    have HB4 := Lib.hid (below_next HB3.out hb4)
    clear hb4 HI3 HB3
    go_wp2_with fail
    refine (rord_any _ _ l _ HO.out HM.out (HP.out.next HB4.out)).mono ?_
    rintro e w5 ⟨rfl, hb5⟩
    have HI5 : Hid (Ints w5 w5.heap.size A3 (mapN f l.length)) := HI4.out.next hb5
    have HB5 := Lib.hid (below_next HB4.out hb5)
    clear hb5 HI4 HB4
    go_wp2_with fail
    go_loopw [10] (fun q wr => ∃ k : Nat, k ≤ l.length ∧ q = .int .i64 (k : Int) ∧ Below w5.heap.size w5 wr) (fun q _ => l.length - (intOf q).toNat)
    case atStart => exact ⟨0, Nat.zero_le _, rfl, Below.refl _ _⟩
    case round =>
      obtain ⟨k, hk, rfl, hbw⟩ := hrel
      have HBW := Lib.hid hbw
      clear hbw
      by_cases hlt : k < l.length
      · obtain ⟨b, off, rfl, hB, hc⟩ := HI5.out (by rw [mapN_len]; omega)
        have d0 := (HBW.out.cell (p := ⟨b, off + k, none⟩) hB).trans (hc k (by rw [mapN_len]; exact hlt))
        rw [mapN_at f hlt] at d0
        obtain ⟨bA, oA, rfl, hBA, hcA⟩ := HP.out (by omega)
        obtain ⟨⟨g1, g2, g3⟩, g4, g5, ⟨g6, g7, g8, g9⟩, ⟨g10, g11⟩, g12, g13, g14⟩ := HLK.out k hlt
        have hpv : pV l e k = if 0 ≤ e then (if odAt l k = o then stAt l k else 0) else shAt l k := by
          unfold pV stO
          rw [HO.out]
        obtain ⟨p, hp⟩ : ∃ p, pV l e k = p := ⟨_, rfl⟩
        obtain ⟨X, hX⟩ : ∃ X, xV l e k = X := ⟨_, rfl⟩
        have hXd : X = (e - r) * p - (setV l e k - wdAt l k) * T := by rw [← hX, ← hp, ← HFR.out.2.1, ← HFR.out.2.2]; rfl
        rw [hp] at hpv
        rw [hX, HFR.out.2.2] at g5
        rw [hX] at g14
        rw [HFR.out.2.2] at g4 g8 g9 g13
        rw [hp] at g6 g7
        rw [HFR.out.2.1] at g10
        rw [hp, HFR.out.2.1] at g12
        rw [HFR.out.1] at g1 g2 g3 g4 g11 g13 hXd
        obtain ⟨y, hy⟩ : ∃ y, f k = y := ⟨_, rfl⟩
        rw [hy] at d0 g1 g2 g3 g4 g11 g13 hXd
        obtain ⟨a, ha⟩ : ∃ a, wdAt l k = a := ⟨_, rfl⟩
        obtain ⟨s, hs⟩ : ∃ s, stAt l k = s := ⟨_, rfl⟩
        obtain ⟨q, hq⟩ : ∃ q, shAt l k = q := ⟨_, rfl⟩
        obtain ⟨od, hod⟩ : ∃ od, odAt l k = od := ⟨_, rfl⟩
        rw [ha] at g1 g2 g3 g4 g11 g13 hXd
        rw [hq] at g1 hpv
        rw [hs, hod] at hpv
        have hCELL : ∀ W, Below w5.heap.size w5 W → (W.cell? ⟨bA, oA + k * 4, none⟩ = some (.int .i64 a) ∧ W.cell? ⟨bA, oA + k * 4 + 1, none⟩ = some (.int .i64 s) ∧ W.cell? ⟨bA, oA + k * 4 + 2, none⟩ = some (.int .i64 q) ∧ W.cell? ⟨bA, oA + k * 4 + 3, none⟩ = some (.int .i64 od)) := fun W hW => by
          have hW' := below_next HB5.out hW
          obtain ⟨c0, c1, c2, c3⟩ := hcA k hlt
          rw [ha] at c0
          rw [hs] at c1
          rw [hq] at c2
          rw [hod] at c3
          exact ⟨(hW'.cell (p := ⟨bA, oA + k * 4, none⟩) hBA).trans c0, (hW'.cell (p := ⟨bA, oA + k * 4 + 1, none⟩) hBA).trans c1, (hW'.cell (p := ⟨bA, oA + k * 4 + 2, none⟩) hBA).trans c2, (hW'.cell (p := ⟨bA, oA + k * 4 + 3, none⟩) hBA).trans c3⟩
        have HCELL := Lib.hid hCELL
        have hq0 : 0 ≤ q ∧ q ≤ 1048576 := by
          have := HV.out.2 k hlt
          unfold okG at this
          rw [hq] at this
          omega
        have hq1 : 0 ≤ q := hq0.1
        have hqn : decide (q < 0) = false := decide_eq_false (by omega)
        have sq : IntKind.i64.wrap (-q) = -q := IntWalk.i64_in _ (by omega)
        have sT : IntKind.i64.wrap (-T) = -T := IntWalk.i64_in _ (by omega)
        obtain ⟨d, hd⟩ : ∃ d, y - a = d := ⟨_, rfl⟩
        rw [hd] at g1 g2 g3 g4 g11 g13 hXd
        obtain ⟨m1, hm1⟩ : ∃ m1, (e - r) * p = m1 := ⟨_, rfl⟩
        obtain ⟨m2, hm2⟩ : ∃ m2, d * T = m2 := ⟨_, rfl⟩
        obtain ⟨er, her⟩ : ∃ er, e - r = er := ⟨_, rfl⟩
        rw [her] at g10
        rw [hm1] at g12 hXd
        rw [hm2] at g13 hXd
        have sd : IntKind.i64.wrap (y - a) = d := by rw [hd]; exact g11
        have se : IntKind.i64.wrap (e - r) = er := by rw [her]; exact g10
        have g12' : IntKind.i64.wrap (er * p) = m1 := by rw [← her, hm1]; exact g12
        have g13' : IntKind.i64.wrap (d * T) = m2 := by rw [hm2]; exact g13
        have g14' : IntKind.i64.wrap (m1 - m2) = X := by rw [← hXd]; exact g14
        have hmp : p = 0 → m1 = 0 := fun h => by rw [← hm1, h, Int.mul_zero]
        have hmx : p = 0 → IntKind.i64.wrap (-m2) = X := fun h => by rw [← g14', hmp h, Int.zero_sub]
        have hz : e < 0 → z = T := fun h => by rw [← HZ.out]; exact HSH.out h
        have f1 : decide (d < -q) = false := decide_eq_false (by omega)
        have f2 : 0 ≤ e → decide (d < 0) = false := fun h => decide_eq_false (by have := g2 h; omega)
        have f3 : e ≤ 0 → decide (0 < d) = false := fun h => decide_eq_false (by have := g3 h; omega)
        have f4 : T ≠ 0 → decide (T ≤ X) = false := fun h => decide_eq_false (by have := (g5 h).1; omega)
        have f5 : T ≠ 0 → decide (X ≤ -T) = false := fun h => decide_eq_false (by have := (g5 h).2; omega)
        obtain ⟨c0, _, _, _⟩ := hCELL wr HBW.out
        clear g10 g11 hc hcA ha hs hq hod hy hX hp hd hm1 hm2 her hXd g1 g2 g3 g5 g6 g7 g8 g9 g12 g13 g14 hCELL hq0
        go_wp2_with fail
        go_quiet (fail)
        obtain ⟨W1, hW1⟩ : ∃ W1, W1 = wr.drewN nq := ⟨_, rfl⟩
        have HW1 : Hid (Below w5.heap.size w5 W1) := by rw [hW1]; exact below_drewN HBW.out nq
        rw [← hW1]
        clear hW1 d0 c0
        have HC14 : Hid (∀ v : Bel W1.heap.size W1, (v.v.cell? ⟨bA, oA + k * 4 + 2, none⟩ = some (.int .i64 q)) ∧ Calls Try.prog 19 #[.slice (some ⟨bA, oA, none⟩) l.length c] v.v fun e w' => e = .returned (.int .i64 z) ∧ ∃ v' : Bel W1.heap.size W1, w' = v'.v) := fun v => by
          have hv := below_next HW1.out v.h
          refine ⟨(HCELL.out v.v hv).2.2.1, (rshr_any _ _ l _ HZ.out HM.out (HP.out.next (below_next HB5.out hv))).mono ?_⟩
          rintro e w' ⟨he, hb⟩
          exact ⟨he, ⟨w', below_next v.h hb⟩, rfl⟩
        have HC16 : Hid (∀ W : World, Below w5.heap.size w5 W → 0 ≤ e → ∀ v : Bel W.heap.size W, (v.v.cell? ⟨bA, oA + k * 4 + 1, none⟩ = some (.int .i64 s)) ∧ Calls Try.prog 17 #[.slice (some ⟨bA, oA, none⟩) l.length c, .int .i64 o] v.v fun e w' => e = .returned (.int .i64 T) ∧ ∃ v' : Bel W.heap.size W, w' = v'.v) := fun W hW h0 v => by
          have hv := below_next hW v.h
          refine ⟨(HCELL.out v.v hv).2.1, (rstr_any _ _ l _ _ (HST.out h0) HM.out (HP.out.next (below_next HB5.out hv))).mono ?_⟩
          rintro e w' ⟨he, hb⟩
          exact ⟨he, ⟨w', below_next v.h hb⟩, rfl⟩
        go_wp2_with fail
        have y2 := fun v => (HC14.out v).1
        refine wp_region_bel (by kernel_rfl) (by kernel_rfl) ?_
        repeat (go_big_quiet_step (first | (go_at_call 19; exact (HC14.out _).2)))
        clear y2
        refine wpQuiet_nil ?_
        rintro W2 ⟨v, rfl⟩
        have HW2 : Hid (Below w5.heap.size w5 v.v) := below_next HW1.out v.h
        generalize v.v = W2 at HW2 ⊢
        clear HC14
        by_cases he : 0 ≤ e
        · have f2 := f2 he
          have e0 : decide (0 ≤ e) = true := decide_eq_true he
          rw [if_pos he] at hpv
          have HC16' := fun W hW => HC16.out W hW he
          have HC := Lib.hid (HC16' W2 HW2.out)
          clear HC16 HC16' hz
          go_wp2_with fail
          have y1 := fun v => (HC.out v).1
          refine wp_region_bel (by kernel_rfl) (by kernel_rfl) ?_
          repeat (go_big_quiet_step (first | (go_at_call 17; exact (HC.out _).2)))
          clear y1
          refine wpQuiet_nil ?_
          rintro W3 ⟨v3, rfl⟩
          have HW3 : Hid (Below w5.heap.size w5 v3.v) := below_next HW2.out v3.h
          generalize v3.v = W3 at HW3 ⊢
          clear HC
          obtain ⟨_, _, c2, c3⟩ := HCELL.out W3 HW3.out
          by_cases hoo : od = o
          · rw [if_pos hoo] at hpv
            subst hpv
            clear hmp hmx
            have hod1 : (od != o) = false := by simp [hoo]
            have hod2 : decide (od = o) = true := decide_eq_true hoo
            by_cases h2 : e ≤ 0
            · have e2 : decide (e ≤ 0) = true := decide_eq_true h2
              have f3 := f3 h2
              by_cases h1 : T = 0
              · have hT0 : T = 0 := h1
                have tq : decide (T = 0) = true := decide_eq_true h1
                have hd0 := g4 h1
                subst hd0
                clear h1 g4
                go_wp2_with fail
                go_roundw
                case rel => exact ⟨k + 1, by omega, by go_num, HW3.out⟩
                case measure => simp [intOf]; omega
              · have hT0 : ¬ T = 0 := h1
                have tq : decide (T = 0) = false := decide_eq_false h1
                have f4 := f4 h1
                have f5 := f5 h1
                clear h1 g4
                go_wp2_with fail
                go_roundw
                case rel => exact ⟨k + 1, by omega, by go_num, HW3.out⟩
                case measure => simp [intOf]; omega
            · have e2 : decide (e ≤ 0) = false := decide_eq_false h2
              clear f3
              by_cases h1 : T = 0
              · have hT0 : T = 0 := h1
                have tq : decide (T = 0) = true := decide_eq_true h1
                have hd0 := g4 h1
                subst hd0
                clear h1 g4
                go_wp2_with fail
                go_roundw
                case rel => exact ⟨k + 1, by omega, by go_num, HW3.out⟩
                case measure => simp [intOf]; omega
              · have hT0 : ¬ T = 0 := h1
                have tq : decide (T = 0) = false := decide_eq_false h1
                have f4 := f4 h1
                have f5 := f5 h1
                clear h1 g4
                go_wp2_with fail
                go_roundw
                case rel => exact ⟨k + 1, by omega, by go_num, HW3.out⟩
                case measure => simp [intOf]; omega
          · rw [if_neg hoo] at hpv
            subst hpv
            have hmp := hmp rfl
            have hmx := hmx rfl
            subst hmp
            have hmz : IntKind.i64.wrap 0 = 0 := by decide
            have hod1 : (od != o) = true := by simp [hoo]
            have hod2 : decide (od = o) = false := decide_eq_false hoo
            by_cases h2 : e ≤ 0
            · have e2 : decide (e ≤ 0) = true := decide_eq_true h2
              have f3 := f3 h2
              by_cases h1 : T = 0
              · have hT0 : T = 0 := h1
                have tq : decide (T = 0) = true := decide_eq_true h1
                have hd0 := g4 h1
                subst hd0
                clear h1 g4
                go_wp2_with fail
                go_roundw
                case rel => exact ⟨k + 1, by omega, by go_num, HW3.out⟩
                case measure => simp [intOf]; omega
              · have hT0 : ¬ T = 0 := h1
                have tq : decide (T = 0) = false := decide_eq_false h1
                have f4 := f4 h1
                have f5 := f5 h1
                clear h1 g4
                go_wp2_with fail
                go_roundw
                case rel => exact ⟨k + 1, by omega, by go_num, HW3.out⟩
                case measure => simp [intOf]; omega
            · have e2 : decide (e ≤ 0) = false := decide_eq_false h2
              clear f3
              by_cases h1 : T = 0
              · have hT0 : T = 0 := h1
                have tq : decide (T = 0) = true := decide_eq_true h1
                have hd0 := g4 h1
                subst hd0
                clear h1 g4
                go_wp2_with fail
                go_roundw
                case rel => exact ⟨k + 1, by omega, by go_num, HW3.out⟩
                case measure => simp [intOf]; omega
              · have hT0 : ¬ T = 0 := h1
                have tq : decide (T = 0) = false := decide_eq_false h1
                have f4 := f4 h1
                have f5 := f5 h1
                clear h1 g4
                go_wp2_with fail
                go_roundw
                case rel => exact ⟨k + 1, by omega, by go_num, HW3.out⟩
                case measure => simp [intOf]; omega
        · have f3 := f3 (by omega)
          have e0 : decide (0 ≤ e) = false := decide_eq_false he
          have e1 : decide (e ≤ 0) = true := decide_eq_true (by omega)
          have hz := hz (by omega)
          rw [if_neg he] at hpv
          subst hpv
          subst hz
          clear hmp hmx
          obtain ⟨_, _, c2, c3⟩ := HCELL.out W2 HW2.out
          clear HC16
          by_cases h1 : z = 0
          · have hT0 : z = 0 := h1
            have tq : decide (z = 0) = true := decide_eq_true h1
            have hd0 := g4 h1
            subst hd0
            clear h1 g4
            go_wp2_with fail
            go_roundw
            case rel => exact ⟨k + 1, by omega, by go_num, HW2.out⟩
            case measure => simp [intOf]; omega
          · have hT0 : ¬ z = 0 := h1
            have tq : decide (z = 0) = false := decide_eq_false h1
            have f4 := f4 h1
            have f5 := f5 h1
            clear h1 g4
            go_wp2_with fail
            go_roundw
            case rel => exact ⟨k + 1, by omega, by go_num, HW2.out⟩
            case measure => simp [intOf]; omega
      · obtain rfl : k = l.length := by omega
        go_wp2
        go_ret
        exact ⟨rfl, below_next HB5.out HBW.out⟩
  · have HRT : Hid (¬ (VG l ∧ rngW wd)) := hok
    go_enter Try.func7, Try.ntmps7
    go_wp2_with fail
    refine (gawake_any _).mono ?_
    rintro e w1 ⟨rfl, hb1⟩
    have HB1 := Lib.hid hb1
    clear hb1
    go_wp2_with fail
    refine (right_any (r := false) _ _ l _ _ (no_iff HRT.out) HM.out (HP.out.next HB1.out)).mono ?_
    rintro e w2 ⟨rfl, hb2⟩
    go_wp2
    go_ret
    exact ⟨rfl, below_next HB1.out hb2⟩
end Go.Proofs.Ytnhplbhjbpdcaaa
