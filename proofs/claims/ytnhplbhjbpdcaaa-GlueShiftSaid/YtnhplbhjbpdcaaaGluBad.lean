/- Badness: the program's and the reference's. -/
import Derived.Test.YtnhplbhjbpdcaaaGluRefTop
namespace Go.Proofs.Ytnhplbhjbpdcaaa
open Go.RowKit
def cubeV (r : Int) : Int := if 10000 < r * r * r / 10000 then 10000 else r * r * r / 10000
def endV (e T am : Int) : Int := if T = 0 then 10000 else if e < -T then 10001 else if 1000 < 100 * am / T then 10000 else cubeV (100 * am / T)
def badE (l : List Gl) (e : Int) : Int := if e = 0 then 0 else if 0 < e ∧ 0 < ordZ l then 0 else if e < 0 then endV e (shrV l) (-e) else endV e (strV l 0) e
def badV (l : List Gl) (wd : Int) : Int := if VG l ∧ rngW wd then badE l (wd - natV l) else 0
theorem cube_in {r : Int} (h0 : 0 ≤ r) (h1 : r ≤ 1000) : 0 ≤ r * r ∧ r * r ≤ 1000000 ∧ 0 ≤ r * r * r ∧ r * r * r ≤ 1000000000 := by
  have a1 := Int.mul_nonneg h0 h0
  have a2 := Int.mul_le_mul h1 h1 h0 (show (0 : Int) ≤ 1000 by omega)
  have a3 := Int.mul_nonneg a1 h0
  have a4 := Int.mul_le_mul (show r * r ≤ 1000000 by omega) h1 h0 (show (0 : Int) ≤ 1000000 by omega)
  omega
set_option maxRecDepth 100000 in
set_option maxHeartbeats 1000000 in
theorem rbad_any (A : Option Addr) (c : Nat) (l : List Gl) (wd : Int) (w : World) (hm : l.length ≤ lenMax) (hP : Gls w w.heap.size A l) :
    Calls Try.prog 24 #[.slice A l.length c, .int .i64 wd] w fun e w' => e = .returned (.tuple #[.int .i64 (badV l wd), .int .i64 (errV l wd)]) ∧ Below w.heap.size w w' := by
  have HM := Lib.hid hm
  have HP := Lib.hid hP
  clear hm hP
  by_cases hok : VG l ∧ rngW wd
  · have hei := e_in hok.1 hok.2
    have hE : errV l wd = 0 := (setAns_ok hok).2.2
    have hbv : badV l wd = badE l (wd - natV l) := if_pos hok
    rw [hE, hbv]
    have HN : Hid (natZ l = natV l) := natZ_ok hok.1
    have HV := Lib.hid hok.1
    have HE := Lib.hid hE
    have hr1 := hok.2.1
    have hr2 := hok.2.2
    obtain ⟨n, hn⟩ : ∃ n, natV l = n := ⟨_, rfl⟩
    rw [hn] at hei HN ⊢
    have he1 := hei.1
    have he2 := hei.2
    have s0 : IntKind.i64.wrap (wd - n) = wd - n := IntWalk.i64_in _ (by omega)
    clear hE hok hn hei hbv
    obtain ⟨e, he⟩ : ∃ e, wd - n = e := ⟨_, rfl⟩
    have s1 : IntKind.i64.wrap (wd - n) = e := s0.trans he
    rw [he] at he1 he2 ⊢
    clear he s0
    obtain ⟨T, hT⟩ : ∃ T, T = if e < 0 then shrV l else strV l 0 := ⟨_, rfl⟩
    obtain ⟨v, hv⟩ : ∃ v, badE l e = v := ⟨_, rfl⟩
    rw [hv]
    by_cases h0 : e = 0
    · subst h0
      have hv0 : v = 0 := by rw [← hv]; unfold badE; rw [if_pos rfl]
      subst hv0
      clear hT
      go_enter Try.func24, Try.ntmps24
      go_wp2_with fail
      refine (rcheck_any _ _ l _ _ HE.out HM.out HP.out).mono ?_
      rintro e1 w1 ⟨rfl, hb1⟩
      have HB1 := Lib.hid hb1
      clear hb1
      go_wp2_with fail
      refine (rnat_any _ _ l _ HN.out HM.out (HP.out.next HB1.out)).mono ?_
      rintro e2 w2 ⟨rfl, hb2⟩
      have HB2 := Lib.hid (below_next HB1.out hb2)
      clear hb2
      go_wp2
      go_ret2
      exact ⟨rfl, HB2.out⟩
    · obtain ⟨o, ho⟩ : ∃ o, ordZ l = o := ⟨_, rfl⟩
      have HO := Lib.hid ho
      by_cases hpo : 0 < e ∧ 0 < o
      · have hv0 : v = 0 := by rw [← hv]; unfold badE; rw [if_neg h0, ho, if_pos hpo]
        subst hv0
        obtain ⟨p1, p2⟩ := hpo
        have p3 : (e == 0) = false := beq_eq_false_iff_ne.2 h0
        clear hT hv ho
        go_enter Try.func24, Try.ntmps24
        go_wp2_with fail
        refine (rcheck_any _ _ l _ _ HE.out HM.out HP.out).mono ?_
        rintro e1 w1 ⟨rfl, hb1⟩
        have HB1 := Lib.hid hb1
        clear hb1
        go_wp2_with fail
        refine (rnat_any _ _ l _ HN.out HM.out (HP.out.next HB1.out)).mono ?_
        rintro e2 w2 ⟨rfl, hb2⟩
        have HB2 := Lib.hid (below_next HB1.out hb2)
        clear hb2
        go_wp2_with fail
        refine (rord_any _ _ l _ HO.out HM.out (HP.out.next HB2.out)).mono ?_
        rintro e3 w3 ⟨rfl, hb3⟩
        go_wp2
        go_ret2
        exact ⟨rfl, below_next HB2.out hb3⟩
      · have hend : v = endV e T (if e < 0 then -e else e) := by
          rw [← hv]; unfold badE; rw [if_neg h0, ho, if_neg hpo, hT]
          by_cases hn : e < 0
          · rw [if_pos hn, if_pos hn, if_pos hn]
          · rw [if_neg hn, if_neg hn, if_neg hn]
        have p3 : (e == 0) = false := beq_eq_false_iff_ne.2 h0
        obtain ⟨am, ham⟩ : ∃ am, (if e < 0 then -e else e) = am := ⟨_, rfl⟩
        rw [ham] at hend
        obtain ⟨S, hS⟩ : ∃ S, strZ l 0 = S := ⟨_, rfl⟩
        have HSS := Lib.hid hS
        have HSH : Hid (shrZ l = shrV l) := shrZ_ok HV.out
        have hTb : 0 ≤ T ∧ T ≤ 209715200 := by
          rw [hT]
          split
          · exact shr_bound HV.out (Nat.le_refl _)
          · exact str_bound HV.out 0 (Nat.le_refl _)
        have hTb1 := hTb.1
        have hTb2 := hTb.2
        have hamr : 0 < am ∧ am ≤ 1283457024 := by rw [← ham]; split <;> omega
        have ha1 := hamr.1
        have ha2 := hamr.2
        have hST : ¬ e < 0 → S = T := fun h => by rw [hT, if_neg h, ← hS]; exact strZ_ok HV.out 0
        have hSR : e < 0 → shrV l = T := fun h => by rw [hT, if_pos h]
        unfold endV at hend
        -- the four ends
        have hfour : (T = 0 ∧ v = 10000) ∨ (T ≠ 0 ∧ e < -T ∧ v = 10001) ∨ (T ≠ 0 ∧ ¬ e < -T ∧ ∃ r, 100 * am / T = r ∧ 0 ≤ r ∧ ((1000 < r ∧ v = 10000) ∨ (r ≤ 1000 ∧ v = cubeV r))) := by
          by_cases t0 : T = 0
          · rw [if_pos t0] at hend; exact .inl ⟨t0, hend⟩
          · rw [if_neg t0] at hend
            by_cases t1 : e < -T
            · rw [if_pos t1] at hend; exact .inr (.inl ⟨t0, t1, hend⟩)
            · rw [if_neg t1] at hend
              refine .inr (.inr ⟨t0, t1, _, rfl, Int.ediv_nonneg (by omega) (by omega), ?_⟩)
              by_cases t2 : 1000 < 100 * am / T
              · rw [if_pos t2] at hend; exact .inl ⟨t2, hend⟩
              · rw [if_neg t2] at hend; exact .inr ⟨by omega, hend⟩
        clear hend hT hv hTb hamr hS
        have s2 : IntKind.i64.wrap (100 * am) = 100 * am := IntWalk.i64_in _ (by omega)
        have s6 : IntKind.i64.wrap (-T) = -T := IntWalk.i64_in _ (by omega)
        by_cases hneg : e < 0
        · have hsr := hSR hneg
          rw [hsr] at HSH
          have ham2 : -e = am := by rw [← ham, if_pos hneg]
          have s9 : IntKind.i64.wrap (-e) = am := by rw [IntWalk.i64_in _ (by omega)]; exact ham2
          have m9 : (if e < -e then -e else e) = am := by rw [if_pos (by omega)]; exact ham2
          have m8 : (if e < am then am else e) = am := if_pos (by omega)
          have p4 : ¬ 0 < e := by omega
          clear hST hSR hsr ham ham2 ho hpo
          rcases hfour with ⟨t0, tv⟩ | ⟨t0, t1, tv⟩ | ⟨t0, t1, r, hr, hr0, hc⟩
          · subst t0
            subst tv
            go_enter Try.func24, Try.ntmps24
            go_wp2_with fail
            refine (rcheck_any _ _ l _ _ HE.out HM.out HP.out).mono ?_
            rintro e1 w1 ⟨rfl, hb1⟩
            have HB1 := Lib.hid hb1
            clear hb1
            go_wp2_with fail
            refine (rnat_any _ _ l _ HN.out HM.out (HP.out.next HB1.out)).mono ?_
            rintro e2 w2 ⟨rfl, hb2⟩
            have HB2 := Lib.hid (below_next HB1.out hb2)
            clear hb2
            go_wp2_with fail
            refine (rstr_any _ _ l _ _ HSS.out HM.out (HP.out.next HB2.out)).mono ?_
            rintro e3 w3 ⟨rfl, hb3⟩
            have HB3 := Lib.hid (below_next HB2.out hb3)
            clear hb3
            go_wp2_with fail
            refine (rshr_any _ _ l _ HSH.out HM.out (HP.out.next HB3.out)).mono ?_
            rintro e4 w4 ⟨rfl, hb4⟩
            have HB4 := Lib.hid (below_next HB3.out hb4)
            clear hb4
            go_wp2
            go_ret2
            exact ⟨rfl, HB4.out⟩
          · subst tv
            have t3 : (T == 0) = false := beq_eq_false_iff_ne.2 t0
            go_enter Try.func24, Try.ntmps24
            go_wp2_with fail
            refine (rcheck_any _ _ l _ _ HE.out HM.out HP.out).mono ?_
            rintro e1 w1 ⟨rfl, hb1⟩
            have HB1 := Lib.hid hb1
            clear hb1
            go_wp2_with fail
            refine (rnat_any _ _ l _ HN.out HM.out (HP.out.next HB1.out)).mono ?_
            rintro e2 w2 ⟨rfl, hb2⟩
            have HB2 := Lib.hid (below_next HB1.out hb2)
            clear hb2
            go_wp2_with fail
            refine (rstr_any _ _ l _ _ HSS.out HM.out (HP.out.next HB2.out)).mono ?_
            rintro e3 w3 ⟨rfl, hb3⟩
            have HB3 := Lib.hid (below_next HB2.out hb3)
            clear hb3
            go_wp2_with fail
            refine (rshr_any _ _ l _ HSH.out HM.out (HP.out.next HB3.out)).mono ?_
            rintro e4 w4 ⟨rfl, hb4⟩
            have HB4 := Lib.hid (below_next HB3.out hb4)
            clear hb4
            go_wp2
            go_ret2
            exact ⟨rfl, HB4.out⟩
          · have t3 : (T == 0) = false := beq_eq_false_iff_ne.2 t0
            have t4 : -T ≤ e := by omega
            have s3 : IntKind.i64.wrap ((100 * am).tdiv T) = r := (IntWalk.i64_quo _ _ (by omega)).trans hr
            rcases hc with ⟨t2, tv⟩ | ⟨t2, tv⟩
            · subst tv
              go_enter Try.func24, Try.ntmps24
              go_wp2_with fail
              refine (rcheck_any _ _ l _ _ HE.out HM.out HP.out).mono ?_
              rintro e1 w1 ⟨rfl, hb1⟩
              have HB1 := Lib.hid hb1
              clear hb1
              go_wp2_with fail
              refine (rnat_any _ _ l _ HN.out HM.out (HP.out.next HB1.out)).mono ?_
              rintro e2 w2 ⟨rfl, hb2⟩
              have HB2 := Lib.hid (below_next HB1.out hb2)
              clear hb2
              go_wp2_with fail
              refine (rstr_any _ _ l _ _ HSS.out HM.out (HP.out.next HB2.out)).mono ?_
              rintro e3 w3 ⟨rfl, hb3⟩
              have HB3 := Lib.hid (below_next HB2.out hb3)
              clear hb3
              go_wp2_with fail
              refine (rshr_any _ _ l _ HSH.out HM.out (HP.out.next HB3.out)).mono ?_
              rintro e4 w4 ⟨rfl, hb4⟩
              have HB4 := Lib.hid (below_next HB3.out hb4)
              clear hb4
              go_wp2
              go_ret2
              exact ⟨rfl, HB4.out⟩
            · have hcu := cube_in hr0 t2
              have s4 : IntKind.i64.wrap (r * r) = r * r := IntWalk.i64_in _ (by omega)
              have s5 : IntKind.i64.wrap (r * r * r) = r * r * r := IntWalk.i64_in _ (by omega)
              obtain ⟨q, hq⟩ : ∃ q, r * r * r / 10000 = q := ⟨_, rfl⟩
              have s7 : IntKind.i64.wrap ((r * r * r).tdiv 10000) = q := (IntWalk.i64_quo _ _ (by omega)).trans hq
              have s8 : (if 10000 < q then 10000 else q) = v := by rw [tv]; unfold cubeV; rw [hq]
              clear hcu tv hr hq
              go_enter Try.func24, Try.ntmps24
              go_wp2_with fail
              refine (rcheck_any _ _ l _ _ HE.out HM.out HP.out).mono ?_
              rintro e1 w1 ⟨rfl, hb1⟩
              have HB1 := Lib.hid hb1
              clear hb1
              go_wp2_with fail
              refine (rnat_any _ _ l _ HN.out HM.out (HP.out.next HB1.out)).mono ?_
              rintro e2 w2 ⟨rfl, hb2⟩
              have HB2 := Lib.hid (below_next HB1.out hb2)
              clear hb2
              go_wp2_with fail
              refine (rstr_any _ _ l _ _ HSS.out HM.out (HP.out.next HB2.out)).mono ?_
              rintro e3 w3 ⟨rfl, hb3⟩
              have HB3 := Lib.hid (below_next HB2.out hb3)
              clear hb3
              go_wp2_with fail
              refine (rshr_any _ _ l _ HSH.out HM.out (HP.out.next HB3.out)).mono ?_
              rintro e4 w4 ⟨rfl, hb4⟩
              have HB4 := Lib.hid (below_next HB3.out hb4)
              clear hb4
              go_wp2
              go_ret2
              exact ⟨rfl, HB4.out⟩
        · have hst := hST hneg
          rw [hst] at HSS
          clear hst
          have ham2 : e = am := by rw [← ham, if_neg hneg]
          have p4 : 0 < e := by omega
          have p5 : ¬ 0 < o := fun h => hpo ⟨p4, h⟩
          have s9 : IntKind.i64.wrap (-e) = -e := IntWalk.i64_in _ (by omega)
          rw [← ham2] at hfour s2 ha1 ha2
          have m9 : (if e < -e then -e else e) = e := if_neg (by omega)
          clear hST hSR ham ho hpo ham2 am
          rcases hfour with ⟨t0, tv⟩ | ⟨t0, t1, tv⟩ | ⟨t0, t1, r, hr, hr0, hc⟩
          · subst t0
            subst tv
            go_enter Try.func24, Try.ntmps24
            go_wp2_with fail
            refine (rcheck_any _ _ l _ _ HE.out HM.out HP.out).mono ?_
            rintro e1 w1 ⟨rfl, hb1⟩
            have HB1 := Lib.hid hb1
            clear hb1
            go_wp2_with fail
            refine (rnat_any _ _ l _ HN.out HM.out (HP.out.next HB1.out)).mono ?_
            rintro e2 w2 ⟨rfl, hb2⟩
            have HB2 := Lib.hid (below_next HB1.out hb2)
            clear hb2
            go_wp2_with fail
            refine (rord_any _ _ l _ HO.out HM.out (HP.out.next HB2.out)).mono ?_
            rintro e3 w3 ⟨rfl, hb3⟩
            have HB3 := Lib.hid (below_next HB2.out hb3)
            clear hb3
            go_wp2_with fail
            refine (rstr_any _ _ l _ _ HSS.out HM.out (HP.out.next HB3.out)).mono ?_
            rintro e4 w4 ⟨rfl, hb4⟩
            have HB4 := Lib.hid (below_next HB3.out hb4)
            clear hb4
            go_wp2
            go_ret2
            exact ⟨rfl, HB4.out⟩
          · exfalso; omega
          · have t3 : (T == 0) = false := beq_eq_false_iff_ne.2 t0
            have t4 : -T ≤ e := by omega
            have s3 : IntKind.i64.wrap ((100 * e).tdiv T) = r := (IntWalk.i64_quo _ _ (by omega)).trans hr
            rcases hc with ⟨t2, tv⟩ | ⟨t2, tv⟩
            · subst tv
              go_enter Try.func24, Try.ntmps24
              go_wp2_with fail
              refine (rcheck_any _ _ l _ _ HE.out HM.out HP.out).mono ?_
              rintro e1 w1 ⟨rfl, hb1⟩
              have HB1 := Lib.hid hb1
              clear hb1
              go_wp2_with fail
              refine (rnat_any _ _ l _ HN.out HM.out (HP.out.next HB1.out)).mono ?_
              rintro e2 w2 ⟨rfl, hb2⟩
              have HB2 := Lib.hid (below_next HB1.out hb2)
              clear hb2
              go_wp2_with fail
              refine (rord_any _ _ l _ HO.out HM.out (HP.out.next HB2.out)).mono ?_
              rintro e3 w3 ⟨rfl, hb3⟩
              have HB3 := Lib.hid (below_next HB2.out hb3)
              clear hb3
              go_wp2_with fail
              refine (rstr_any _ _ l _ _ HSS.out HM.out (HP.out.next HB3.out)).mono ?_
              rintro e4 w4 ⟨rfl, hb4⟩
              have HB4 := Lib.hid (below_next HB3.out hb4)
              clear hb4
              go_wp2
              go_ret2
              exact ⟨rfl, HB4.out⟩
            · have hcu := cube_in hr0 t2
              have s4 : IntKind.i64.wrap (r * r) = r * r := IntWalk.i64_in _ (by omega)
              have s5 : IntKind.i64.wrap (r * r * r) = r * r * r := IntWalk.i64_in _ (by omega)
              obtain ⟨q, hq⟩ : ∃ q, r * r * r / 10000 = q := ⟨_, rfl⟩
              have s7 : IntKind.i64.wrap ((r * r * r).tdiv 10000) = q := (IntWalk.i64_quo _ _ (by omega)).trans hq
              have s8 : (if 10000 < q then 10000 else q) = v := by rw [tv]; unfold cubeV; rw [hq]
              clear hcu tv hr hq
              go_enter Try.func24, Try.ntmps24
              go_wp2_with fail
              refine (rcheck_any _ _ l _ _ HE.out HM.out HP.out).mono ?_
              rintro e1 w1 ⟨rfl, hb1⟩
              have HB1 := Lib.hid hb1
              clear hb1
              go_wp2_with fail
              refine (rnat_any _ _ l _ HN.out HM.out (HP.out.next HB1.out)).mono ?_
              rintro e2 w2 ⟨rfl, hb2⟩
              have HB2 := Lib.hid (below_next HB1.out hb2)
              clear hb2
              go_wp2_with fail
              refine (rord_any _ _ l _ HO.out HM.out (HP.out.next HB2.out)).mono ?_
              rintro e3 w3 ⟨rfl, hb3⟩
              have HB3 := Lib.hid (below_next HB2.out hb3)
              clear hb3
              go_wp2_with fail
              refine (rstr_any _ _ l _ _ HSS.out HM.out (HP.out.next HB3.out)).mono ?_
              rintro e4 w4 ⟨rfl, hb4⟩
              have HB4 := Lib.hid (below_next HB3.out hb4)
              clear hb4
              go_wp2
              go_ret2
              exact ⟨rfl, HB4.out⟩
  · have hbv : badV l wd = 0 := if_neg hok
    rw [hbv]
    obtain ⟨x, hx⟩ : ∃ x, errV l wd = x := ⟨_, rfl⟩
    have hx0 : ¬ x = 0 := by
      rw [← hx]
      rcases err_cases l wd with ⟨h1, h2, _⟩ | ⟨_, _, h⟩ | ⟨_, h⟩
      · exact absurd ⟨h1, h2⟩ hok
      · rw [h]; decide
      · rw [h]; decide
    have b1 : (x == 0) = false := beq_eq_false_iff_ne.2 hx0
    have b2 : (x != 0) = true := by rw [bne_iff_ne]; exact hx0
    rw [hx]
    have HX := Lib.hid hx
    clear hbv hok hx
    go_enter Try.func24, Try.ntmps24
    go_wp2_with fail
    refine (rcheck_any _ _ l _ _ HX.out HM.out HP.out).mono ?_
    rintro e w1 ⟨rfl, hb1⟩
    go_wp2
    go_ret2
    exact ⟨rfl, hb1⟩
set_option maxRecDepth 100000 in
set_option maxHeartbeats 1000000 in
theorem gbad_any (A : Option Addr) (c : Nat) (l : List Gl) (wd : Int) (w : World) (hm : l.length ≤ lenMax) (hP : Gls w w.heap.size A l) :
    Calls Try.prog 23 #[.slice A l.length c, .int .i64 wd] w fun e w' => e = .returned (.tuple #[.int .i64 (badV l wd), .int .i64 (errV l wd)]) ∧ Below w.heap.size w w' := by
  have HM := Lib.hid hm
  have HP := Lib.hid hP
  clear hm hP
  by_cases hok : VG l ∧ rngW wd
  · have hei := e_in hok.1 hok.2
    have hE : errV l wd = 0 := (setAns_ok hok).2.2
    have hbv : badV l wd = badE l (wd - natV l) := if_pos hok
    rw [hE, hbv]
    have HN : Hid (natZ l = natV l) := natZ_ok hok.1
    have HV := Lib.hid hok.1
    have HE := Lib.hid hE
    have hr1 := hok.2.1
    have hr2 := hok.2.2
    obtain ⟨n, hn⟩ : ∃ n, natV l = n := ⟨_, rfl⟩
    rw [hn] at hei HN ⊢
    have he1 := hei.1
    have he2 := hei.2
    have s0 : IntKind.i64.wrap (wd - n) = wd - n := IntWalk.i64_in _ (by omega)
    clear hE hok hn hei hbv
    obtain ⟨e, he⟩ : ∃ e, wd - n = e := ⟨_, rfl⟩
    have s1 : IntKind.i64.wrap (wd - n) = e := s0.trans he
    rw [he] at he1 he2 ⊢
    clear he s0
    obtain ⟨T, hT⟩ : ∃ T, T = if e < 0 then shrV l else strV l 0 := ⟨_, rfl⟩
    obtain ⟨v, hv⟩ : ∃ v, badE l e = v := ⟨_, rfl⟩
    rw [hv]
    by_cases h0 : e = 0
    · subst h0
      have hv0 : v = 0 := by rw [← hv]; unfold badE; rw [if_pos rfl]
      subst hv0
      clear hT
      go_enter Try.func23, Try.ntmps23
      go_wp2_with fail
      refine (gvalid_any (r := true) _ _ l _ HM.out HP.out (yes_iff HV.out)).mono ?_
      rintro e1 w1 ⟨rfl, hb1⟩
      have HB1 := Lib.hid hb1
      clear hb1
      go_wp2_with fail
      refine (gnat_any _ _ l _ HN.out HM.out (HP.out.next HB1.out)).mono ?_
      rintro e2 w2 ⟨rfl, hb2⟩
      have HB2 := Lib.hid (below_next HB1.out hb2)
      clear hb2
      go_wp2
      go_ret2
      exact ⟨rfl, HB2.out⟩
    · obtain ⟨o, ho⟩ : ∃ o, ordZ l = o := ⟨_, rfl⟩
      have HO := Lib.hid ho
      by_cases hpo : 0 < e ∧ 0 < o
      · have hv0 : v = 0 := by rw [← hv]; unfold badE; rw [if_neg h0, ho, if_pos hpo]
        subst hv0
        obtain ⟨p1, p2⟩ := hpo
        have p3 : (e == 0) = false := beq_eq_false_iff_ne.2 h0
        clear hT hv ho
        go_enter Try.func23, Try.ntmps23
        go_wp2_with fail
        refine (gvalid_any (r := true) _ _ l _ HM.out HP.out (yes_iff HV.out)).mono ?_
        rintro e1 w1 ⟨rfl, hb1⟩
        have HB1 := Lib.hid hb1
        clear hb1
        go_wp2_with fail
        refine (gnat_any _ _ l _ HN.out HM.out (HP.out.next HB1.out)).mono ?_
        rintro e2 w2 ⟨rfl, hb2⟩
        have HB2 := Lib.hid (below_next HB1.out hb2)
        clear hb2
        go_wp2_with fail
        refine (ggreat_any _ _ l _ HO.out HM.out (HP.out.next HB2.out)).mono ?_
        rintro e3 w3 ⟨rfl, hb3⟩
        go_wp2
        go_ret2
        exact ⟨rfl, below_next HB2.out hb3⟩
      · have hend : v = endV e T (if e < 0 then -e else e) := by
          rw [← hv]; unfold badE; rw [if_neg h0, ho, if_neg hpo, hT]
          by_cases hn : e < 0
          · rw [if_pos hn, if_pos hn, if_pos hn]
          · rw [if_neg hn, if_neg hn, if_neg hn]
        have p3 : (e == 0) = false := beq_eq_false_iff_ne.2 h0
        obtain ⟨am, ham⟩ : ∃ am, (if e < 0 then -e else e) = am := ⟨_, rfl⟩
        rw [ham] at hend
        obtain ⟨S, hS⟩ : ∃ S, strZ l 0 = S := ⟨_, rfl⟩
        have HSS := Lib.hid hS
        have HSH : Hid (shrZ l = shrV l) := shrZ_ok HV.out
        have hTb : 0 ≤ T ∧ T ≤ 209715200 := by
          rw [hT]
          split
          · exact shr_bound HV.out (Nat.le_refl _)
          · exact str_bound HV.out 0 (Nat.le_refl _)
        have hTb1 := hTb.1
        have hTb2 := hTb.2
        have hamr : 0 < am ∧ am ≤ 1283457024 := by rw [← ham]; split <;> omega
        have ha1 := hamr.1
        have ha2 := hamr.2
        have hST : ¬ e < 0 → S = T := fun h => by rw [hT, if_neg h, ← hS]; exact strZ_ok HV.out 0
        have hSR : e < 0 → shrV l = T := fun h => by rw [hT, if_pos h]
        unfold endV at hend
        -- the four ends
        have hfour : (T = 0 ∧ v = 10000) ∨ (T ≠ 0 ∧ e < -T ∧ v = 10001) ∨ (T ≠ 0 ∧ ¬ e < -T ∧ ∃ r, 100 * am / T = r ∧ 0 ≤ r ∧ ((1000 < r ∧ v = 10000) ∨ (r ≤ 1000 ∧ v = cubeV r))) := by
          by_cases t0 : T = 0
          · rw [if_pos t0] at hend; exact .inl ⟨t0, hend⟩
          · rw [if_neg t0] at hend
            by_cases t1 : e < -T
            · rw [if_pos t1] at hend; exact .inr (.inl ⟨t0, t1, hend⟩)
            · rw [if_neg t1] at hend
              refine .inr (.inr ⟨t0, t1, _, rfl, Int.ediv_nonneg (by omega) (by omega), ?_⟩)
              by_cases t2 : 1000 < 100 * am / T
              · rw [if_pos t2] at hend; exact .inl ⟨t2, hend⟩
              · rw [if_neg t2] at hend; exact .inr ⟨by omega, hend⟩
        clear hend hT hv hTb hamr hS
        have s2 : IntKind.i64.wrap (100 * am) = 100 * am := IntWalk.i64_in _ (by omega)
        have s6 : IntKind.i64.wrap (-T) = -T := IntWalk.i64_in _ (by omega)
        by_cases hneg : e < 0
        · have hsr := hSR hneg
          rw [hsr] at HSH
          have ham2 : -e = am := by rw [← ham, if_pos hneg]
          have s9 : IntKind.i64.wrap (-e) = am := by rw [IntWalk.i64_in _ (by omega)]; exact ham2
          have m9 : (if e < -e then -e else e) = am := by rw [if_pos (by omega)]; exact ham2
          have m8 : (if e < am then am else e) = am := if_pos (by omega)
          have p4 : ¬ 0 < e := by omega
          clear hST hSR hsr ham ham2 ho hpo
          rcases hfour with ⟨t0, tv⟩ | ⟨t0, t1, tv⟩ | ⟨t0, t1, r, hr, hr0, hc⟩
          · subst t0
            subst tv
            go_enter Try.func23, Try.ntmps23
            go_wp2_with fail
            refine (gvalid_any (r := true) _ _ l _ HM.out HP.out (yes_iff HV.out)).mono ?_
            rintro e1 w1 ⟨rfl, hb1⟩
            have HB1 := Lib.hid hb1
            clear hb1
            go_wp2_with fail
            refine (gnat_any _ _ l _ HN.out HM.out (HP.out.next HB1.out)).mono ?_
            rintro e2 w2 ⟨rfl, hb2⟩
            have HB2 := Lib.hid (below_next HB1.out hb2)
            clear hb2
            go_wp2_with fail
            refine (gstr_any _ _ l _ _ HSS.out HM.out (HP.out.next HB2.out)).mono ?_
            rintro e3 w3 ⟨rfl, hb3⟩
            have HB3 := Lib.hid (below_next HB2.out hb3)
            clear hb3
            go_wp2_with fail
            refine (gshr_any _ _ l _ HSH.out HM.out (HP.out.next HB3.out)).mono ?_
            rintro e4 w4 ⟨rfl, hb4⟩
            have HB4 := Lib.hid (below_next HB3.out hb4)
            clear hb4
            go_wp2
            go_ret2
            exact ⟨rfl, HB4.out⟩
          · subst tv
            have t3 : (T == 0) = false := beq_eq_false_iff_ne.2 t0
            go_enter Try.func23, Try.ntmps23
            go_wp2_with fail
            refine (gvalid_any (r := true) _ _ l _ HM.out HP.out (yes_iff HV.out)).mono ?_
            rintro e1 w1 ⟨rfl, hb1⟩
            have HB1 := Lib.hid hb1
            clear hb1
            go_wp2_with fail
            refine (gnat_any _ _ l _ HN.out HM.out (HP.out.next HB1.out)).mono ?_
            rintro e2 w2 ⟨rfl, hb2⟩
            have HB2 := Lib.hid (below_next HB1.out hb2)
            clear hb2
            go_wp2_with fail
            refine (gstr_any _ _ l _ _ HSS.out HM.out (HP.out.next HB2.out)).mono ?_
            rintro e3 w3 ⟨rfl, hb3⟩
            have HB3 := Lib.hid (below_next HB2.out hb3)
            clear hb3
            go_wp2_with fail
            refine (gshr_any _ _ l _ HSH.out HM.out (HP.out.next HB3.out)).mono ?_
            rintro e4 w4 ⟨rfl, hb4⟩
            have HB4 := Lib.hid (below_next HB3.out hb4)
            clear hb4
            go_wp2
            go_ret2
            exact ⟨rfl, HB4.out⟩
          · have t3 : (T == 0) = false := beq_eq_false_iff_ne.2 t0
            have t4 : -T ≤ e := by omega
            have s3 : IntKind.i64.wrap ((100 * am).tdiv T) = r := (IntWalk.i64_quo _ _ (by omega)).trans hr
            rcases hc with ⟨t2, tv⟩ | ⟨t2, tv⟩
            · subst tv
              go_enter Try.func23, Try.ntmps23
              go_wp2_with fail
              refine (gvalid_any (r := true) _ _ l _ HM.out HP.out (yes_iff HV.out)).mono ?_
              rintro e1 w1 ⟨rfl, hb1⟩
              have HB1 := Lib.hid hb1
              clear hb1
              go_wp2_with fail
              refine (gnat_any _ _ l _ HN.out HM.out (HP.out.next HB1.out)).mono ?_
              rintro e2 w2 ⟨rfl, hb2⟩
              have HB2 := Lib.hid (below_next HB1.out hb2)
              clear hb2
              go_wp2_with fail
              refine (gstr_any _ _ l _ _ HSS.out HM.out (HP.out.next HB2.out)).mono ?_
              rintro e3 w3 ⟨rfl, hb3⟩
              have HB3 := Lib.hid (below_next HB2.out hb3)
              clear hb3
              go_wp2_with fail
              refine (gshr_any _ _ l _ HSH.out HM.out (HP.out.next HB3.out)).mono ?_
              rintro e4 w4 ⟨rfl, hb4⟩
              have HB4 := Lib.hid (below_next HB3.out hb4)
              clear hb4
              go_wp2
              go_ret2
              exact ⟨rfl, HB4.out⟩
            · have hcu := cube_in hr0 t2
              have s4 : IntKind.i64.wrap (r * r) = r * r := IntWalk.i64_in _ (by omega)
              have s5 : IntKind.i64.wrap (r * r * r) = r * r * r := IntWalk.i64_in _ (by omega)
              obtain ⟨q, hq⟩ : ∃ q, r * r * r / 10000 = q := ⟨_, rfl⟩
              have s7 : IntKind.i64.wrap ((r * r * r).tdiv 10000) = q := (IntWalk.i64_quo _ _ (by omega)).trans hq
              have s8 : (if 10000 < q then 10000 else q) = v := by rw [tv]; unfold cubeV; rw [hq]
              clear hcu tv hr hq
              go_enter Try.func23, Try.ntmps23
              go_wp2_with fail
              refine (gvalid_any (r := true) _ _ l _ HM.out HP.out (yes_iff HV.out)).mono ?_
              rintro e1 w1 ⟨rfl, hb1⟩
              have HB1 := Lib.hid hb1
              clear hb1
              go_wp2_with fail
              refine (gnat_any _ _ l _ HN.out HM.out (HP.out.next HB1.out)).mono ?_
              rintro e2 w2 ⟨rfl, hb2⟩
              have HB2 := Lib.hid (below_next HB1.out hb2)
              clear hb2
              go_wp2_with fail
              refine (gstr_any _ _ l _ _ HSS.out HM.out (HP.out.next HB2.out)).mono ?_
              rintro e3 w3 ⟨rfl, hb3⟩
              have HB3 := Lib.hid (below_next HB2.out hb3)
              clear hb3
              go_wp2_with fail
              refine (gshr_any _ _ l _ HSH.out HM.out (HP.out.next HB3.out)).mono ?_
              rintro e4 w4 ⟨rfl, hb4⟩
              have HB4 := Lib.hid (below_next HB3.out hb4)
              clear hb4
              go_wp2
              go_ret2
              exact ⟨rfl, HB4.out⟩
        · have hst := hST hneg
          rw [hst] at HSS
          clear hst
          have ham2 : e = am := by rw [← ham, if_neg hneg]
          have p4 : 0 < e := by omega
          have p5 : ¬ 0 < o := fun h => hpo ⟨p4, h⟩
          have s9 : IntKind.i64.wrap (-e) = -e := IntWalk.i64_in _ (by omega)
          rw [← ham2] at hfour s2 ha1 ha2
          have m9 : (if e < -e then -e else e) = e := if_neg (by omega)
          clear hST hSR ham ho hpo ham2 am
          rcases hfour with ⟨t0, tv⟩ | ⟨t0, t1, tv⟩ | ⟨t0, t1, r, hr, hr0, hc⟩
          · subst t0
            subst tv
            go_enter Try.func23, Try.ntmps23
            go_wp2_with fail
            refine (gvalid_any (r := true) _ _ l _ HM.out HP.out (yes_iff HV.out)).mono ?_
            rintro e1 w1 ⟨rfl, hb1⟩
            have HB1 := Lib.hid hb1
            clear hb1
            go_wp2_with fail
            refine (gnat_any _ _ l _ HN.out HM.out (HP.out.next HB1.out)).mono ?_
            rintro e2 w2 ⟨rfl, hb2⟩
            have HB2 := Lib.hid (below_next HB1.out hb2)
            clear hb2
            go_wp2_with fail
            refine (ggreat_any _ _ l _ HO.out HM.out (HP.out.next HB2.out)).mono ?_
            rintro e3 w3 ⟨rfl, hb3⟩
            have HB3 := Lib.hid (below_next HB2.out hb3)
            clear hb3
            go_wp2_with fail
            refine (gstr_any _ _ l _ _ HSS.out HM.out (HP.out.next HB3.out)).mono ?_
            rintro e4 w4 ⟨rfl, hb4⟩
            have HB4 := Lib.hid (below_next HB3.out hb4)
            clear hb4
            go_wp2
            go_ret2
            exact ⟨rfl, HB4.out⟩
          · exfalso; omega
          · have t3 : (T == 0) = false := beq_eq_false_iff_ne.2 t0
            have t4 : -T ≤ e := by omega
            have s3 : IntKind.i64.wrap ((100 * e).tdiv T) = r := (IntWalk.i64_quo _ _ (by omega)).trans hr
            rcases hc with ⟨t2, tv⟩ | ⟨t2, tv⟩
            · subst tv
              go_enter Try.func23, Try.ntmps23
              go_wp2_with fail
              refine (gvalid_any (r := true) _ _ l _ HM.out HP.out (yes_iff HV.out)).mono ?_
              rintro e1 w1 ⟨rfl, hb1⟩
              have HB1 := Lib.hid hb1
              clear hb1
              go_wp2_with fail
              refine (gnat_any _ _ l _ HN.out HM.out (HP.out.next HB1.out)).mono ?_
              rintro e2 w2 ⟨rfl, hb2⟩
              have HB2 := Lib.hid (below_next HB1.out hb2)
              clear hb2
              go_wp2_with fail
              refine (ggreat_any _ _ l _ HO.out HM.out (HP.out.next HB2.out)).mono ?_
              rintro e3 w3 ⟨rfl, hb3⟩
              have HB3 := Lib.hid (below_next HB2.out hb3)
              clear hb3
              go_wp2_with fail
              refine (gstr_any _ _ l _ _ HSS.out HM.out (HP.out.next HB3.out)).mono ?_
              rintro e4 w4 ⟨rfl, hb4⟩
              have HB4 := Lib.hid (below_next HB3.out hb4)
              clear hb4
              go_wp2
              go_ret2
              exact ⟨rfl, HB4.out⟩
            · have hcu := cube_in hr0 t2
              have s4 : IntKind.i64.wrap (r * r) = r * r := IntWalk.i64_in _ (by omega)
              have s5 : IntKind.i64.wrap (r * r * r) = r * r * r := IntWalk.i64_in _ (by omega)
              obtain ⟨q, hq⟩ : ∃ q, r * r * r / 10000 = q := ⟨_, rfl⟩
              have s7 : IntKind.i64.wrap ((r * r * r).tdiv 10000) = q := (IntWalk.i64_quo _ _ (by omega)).trans hq
              have s8 : (if 10000 < q then 10000 else q) = v := by rw [tv]; unfold cubeV; rw [hq]
              clear hcu tv hr hq
              go_enter Try.func23, Try.ntmps23
              go_wp2_with fail
              refine (gvalid_any (r := true) _ _ l _ HM.out HP.out (yes_iff HV.out)).mono ?_
              rintro e1 w1 ⟨rfl, hb1⟩
              have HB1 := Lib.hid hb1
              clear hb1
              go_wp2_with fail
              refine (gnat_any _ _ l _ HN.out HM.out (HP.out.next HB1.out)).mono ?_
              rintro e2 w2 ⟨rfl, hb2⟩
              have HB2 := Lib.hid (below_next HB1.out hb2)
              clear hb2
              go_wp2_with fail
              refine (ggreat_any _ _ l _ HO.out HM.out (HP.out.next HB2.out)).mono ?_
              rintro e3 w3 ⟨rfl, hb3⟩
              have HB3 := Lib.hid (below_next HB2.out hb3)
              clear hb3
              go_wp2_with fail
              refine (gstr_any _ _ l _ _ HSS.out HM.out (HP.out.next HB3.out)).mono ?_
              rintro e4 w4 ⟨rfl, hb4⟩
              have HB4 := Lib.hid (below_next HB3.out hb4)
              clear hb4
              go_wp2
              go_ret2
              exact ⟨rfl, HB4.out⟩
  · have hbv : badV l wd = 0 := if_neg hok
    rw [hbv]
    rcases err_cases l wd with ⟨h1, h2, _⟩ | ⟨hv, hr, h⟩ | ⟨hv, h⟩
    · exact absurd ⟨h1, h2⟩ hok
    · rw [h]
      have HV := Lib.hid hv
      have hr' := not_rng hr
      clear hv hr h hok hbv
      rcases hr' with h1 | ⟨h1, h2⟩
      all_goals
        go_enter Try.func23, Try.ntmps23
        go_wp2_with fail
        refine (gvalid_any (r := true) _ _ l _ HM.out HP.out (yes_iff HV.out)).mono ?_
        rintro e w1 ⟨rfl, hb1⟩
        go_wp2
        go_ret2
        exact ⟨rfl, hb1⟩
    · rw [h]
      have HV := Lib.hid hv
      clear hv h hok hbv
      go_enter Try.func23, Try.ntmps23
      go_wp2_with fail
      refine (gvalid_any (r := false) _ _ l _ HM.out HP.out (no_iff HV.out)).mono ?_
      rintro e w1 ⟨rfl, hb1⟩
      go_wp2
      go_ret2
      exact ⟨rfl, hb1⟩
end Go.Proofs.Ytnhplbhjbpdcaaa
