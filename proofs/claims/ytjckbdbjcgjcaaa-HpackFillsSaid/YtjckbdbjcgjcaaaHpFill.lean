/- When Spread fills its width: plain words. -/
import Derived.Test.YtjckbdbjcgjcaaaHpSpread
import Derived.Test.YtjckbdbjcgjcaaaHpSmall
namespace Go.Proofs.Ytjckbdbjcgjcaaa
open Go.RowKit
theorem nest_le {l : List Bx} {K : Nat} (h : ∀ i, i < l.length → nestB (kidAt l i) ≤ K) : nestL l ≤ K := by
  have hk : ∀ n, n ≤ l.length → nestL (l.take n) ≤ K := fun n => by
    induction n with
    | zero => intro _; simp [nestL_nil]
    | succ n ih =>
      intro hn
      rw [nest_take _ (by omega)]
      have := ih (by omega)
      have := h n (by omega)
      omega
  have := hk l.length (Nat.le_refl _)
  rwa [List.take_length] at this
theorem maxH_small {l : List Bx} {K : Int} (hK : 0 ≤ K) (h : ∀ i, i < l.length → (kidAt l i).y + (kidAt l i).h ≤ K) : ∀ n, n ≤ l.length → 0 ≤ maxH l n ∧ maxH l n ≤ K
  | 0, _ => ⟨Int.le_refl _, hK⟩
  | n + 1, hn => by
    have h1 := maxH_small hK h n (by omega)
    have h2 := h n (by omega)
    rw [maxH]
    omega
theorem maxD_small {l : List Bx} {K : Int} (hK : 0 ≤ K) (h : ∀ i, i < l.length → (kidAt l i).d - (kidAt l i).y ≤ K) : ∀ n, n ≤ l.length → 0 ≤ maxD l n ∧ maxD l n ≤ K
  | 0, _ => ⟨Int.le_refl _, hK⟩
  | n + 1, hn => by
    have h1 := maxD_small hK h n (by omega)
    have h2 := h n (by omega)
    rw [maxD]
    omega
theorem sumE_N (f : Nat → Int) : ∀ k, sumE f k = Gu.sumN f k
  | 0 => rfl
  | k + 1 => by
    show sumE f k + f k = _
    rw [sumE_N f k]
    rfl
theorem small_w {l : List Bx} (hs : smallL l) (hn : l.length ≤ 100) {k : Nat} (hk : k ≤ l.length) : -104857600 ≤ sumE (fun j => (kidAt l j).w) k ∧ sumE (fun j => (kidAt l j).w) k ≤ 104857600 := by
  have h := sumE_bound (f := fun j => (kidAt l j).w) (b := 1048576) (by omega) k fun j hj => by
    have := (hs j (by omega)).1
    show -1048576 ≤ (kidAt l j).w ∧ (kidAt l j).w ≤ 1048576
    omega
  omega
theorem small_all {l : List Bx} (hs : smallL l) : allV l := fun i hi => (hs i hi).2.1
theorem plc_bound {gs : List Gu.Gl} (hv : Gu.VG gs) {e : Int} (h0 : -400000000 ≤ e) (h1 : e ≤ 400000000) {k : Nat} (hk : k ≤ gs.length) : -609715200 ≤ Gu.sumN (Gu.setV gs e) k ∧ Gu.sumN (Gu.setV gs e) k ≤ 609715200 := by
  have hb := Gu.nat_bound hv hk
  rw [Gu.plc_sum]
  by_cases he : e < 0
  · have h2 := Gu.plc_le_nat hv he hk
    have hg := Gu.gS_in hv he
    have : Gu.sumN (Gu.wdAt gs) k - (-e) ≤ Gu.plcV gs e k := by
      unfold Gu.plcV
      rw [if_pos he]
      split
      · omega
      · rename_i hz
        have hp := Gu.gS_pos hv he hz
        have hle := Gu.sumN_le (f := Gu.shAt gs) (n := gs.length) (k := k) (fun j hj => Gu.sh_pos hv hj) hk
        have hc := Gu.cum_in (g := Gu.gS gs e) (s := Gu.sumN (Gu.shAt gs) k) (T := Gu.shrV gs) (by omega) (by omega) (Gu.shr_bound hv hk).1 hle hp.1
        show _ ≤ Gu.sumN (Gu.wdAt gs) k - Gu.gS gs e * Gu.sumN (Gu.shAt gs) k / Gu.shrV gs
        omega
    omega
  · have h2 := Gu.plc_ge_nat hv he hk
    have : Gu.plcV gs e k ≤ Gu.sumN (Gu.wdAt gs) k + e := by
      unfold Gu.plcV
      rw [if_neg he]
      split
      · omega
      · rename_i ho
        have hp := Gu.str_pos hv ho
        have hle := Gu.sumN_le (f := Gu.stO gs (Gu.ordZ gs)) (n := gs.length) (k := k) (fun j hj => (Gu.stO_range hv (Gu.ordZ gs) hj).1) hk
        have hc := Gu.cum_in (g := e) (s := Gu.sumN (Gu.stO gs (Gu.ordZ gs)) k) (T := Gu.strV gs (Gu.ordZ gs)) (by omega) (by omega) (Gu.str_bound hv (Gu.ordZ gs) hk).1 hle hp
        show Gu.sumN (Gu.wdAt gs) k + e * Gu.sumN (Gu.stO gs (Gu.ordZ gs)) k / Gu.strV gs (Gu.ordZ gs) ≤ _
        omega
    omega
theorem rest_bound {gs : List Gu.Gl} (hv : Gu.VG gs) {e : Int} (h0 : -400000000 ≤ e) (h1 : e ≤ 400000000) : -400000000 ≤ Gu.restV gs e ∧ Gu.restV gs e ≤ 400000000 := by
  unfold Gu.restV
  by_cases he : e < 0
  · rw [if_pos he]
    have := Gu.gS_in hv he
    omega
  · rw [if_neg he]
    split <;> omega
/-- What Spread reckons where it fills a width. -/
structure FillP (l : List Bx) (gs : List Gu.Gl) (wd : Int) : Prop where
  err : sprE l gs wd = 0
  set : Gu.errV gs (sprR l wd) = 0
  len : (sprS l gs wd).length = l.length + 1
  box : sprB l gs wd = rowB l (plX l (lAt (sprS l gs wd))) (wd - Gu.setR gs (sprR l wd))
  rest : -400000000 ≤ Gu.setR gs (sprR l wd) ∧ Gu.setR gs (sprR l wd) ≤ 400000000
  last : IntKind.i64.wrap (endX l (lAt (sprS l gs wd)) l.length + lAt (sprS l gs wd) l.length) = wd - Gu.setR gs (sprR l wd)
  sum : sprR l wd = IntKind.i64.wrap (wd - widX l l.length)
theorem fill_all {l : List Bx} {gs : List Gu.Gl} {wd : Int} (hs : smallL l) (hc : cntL l ≤ 1000) (hn : l.length ≤ 100) (hv : Gu.VG gs) (hg : gs.length = l.length + 1) (h0 : 0 ≤ wd) (h1 : wd ≤ 16777216) : FillP l gs wd := by
  have hav := small_all hs
  have htw := small_w hs hn (Nat.le_refl _)
  have hwx := widX_sum hav (by omega) l.length (Nat.le_refl _)
  have hrr : sprR l wd = wd - sumE (fun j => (kidAt l j).w) l.length := by
    unfold sprR
    rw [hwx]
    exact IntWalk.i64_in _ (by omega)
  obtain ⟨rr, hre⟩ : ∃ rr, sprR l wd = rr := ⟨_, rfl⟩
  rw [hre] at hrr
  have hnat := Gu.nat_bound hv (Nat.le_refl _)
  have hnv : Gu.natV gs = Gu.sumN (Gu.wdAt gs) gs.length := rfl
  obtain ⟨e, hee⟩ : ∃ e, rr - Gu.natV gs = e := ⟨_, rfl⟩
  have he0 : -400000000 ≤ e := by omega
  have he1 : e ≤ 400000000 := by omega
  have hok : sprOk l gs wd := ⟨hg, by unfold rngL; omega, by rw [hre]; unfold rngL; omega⟩
  have hV : sprV l gs := ⟨hav, hv⟩
  have hSL := sprS_len hV hok
  obtain ⟨hL, hR, _⟩ := Gu.setAns_ok (l := gs) (wd := rr) ⟨hv, by rw [← hre]; exact hok.2.2⟩
  rw [hee] at hL hR
  have hSd : sprS l gs wd = Gu.mapN (Gu.setV gs e) gs.length := by unfold sprS; rw [hre, hL]
  have hat : ∀ k, k < l.length + 1 → lAt (sprS l gs wd) k = Gu.setV gs e k := fun k hk => by
    rw [hSd]
    exact Gu.mapN_at _ (by omega)
  have hpl : ∀ k, k ≤ l.length + 1 → -609715200 ≤ Gu.sumN (Gu.setV gs e) k ∧ Gu.sumN (Gu.setV gs e) k ≤ 609715200 := fun k hk => plc_bound hv he0 he1 (by omega)
  have hrb := rest_bound hv he0 he1
  have hex := Gu.exact_sum hv e
  rw [hg] at hex
  -- the ends and places
  have hend : ∀ k, k ≤ l.length → endX l (lAt (sprS l gs wd)) k = sumE (fun j => (kidAt l j).w) k + Gu.sumN (Gu.setV gs e) k := by
    intro k
    induction k with
    | zero => intro _; rfl
    | succ k ih =>
      intro hk
      have h2 := small_w hs hn (k := k) (by omega)
      have h3 := small_w hs hn (k := k + 1) hk
      have h4 := hpl k (by omega)
      have h5 := hpl (k + 1) (by omega)
      have h6 : Gu.sumN (Gu.setV gs e) (k + 1) = Gu.sumN (Gu.setV gs e) k + Gu.setV gs e k := rfl
      have h7 : sumE (fun j => (kidAt l j).w) (k + 1) = sumE (fun j => (kidAt l j).w) k + (kidAt l k).w := rfl
      rw [endX, ih (by omega), hat k (by omega)]
      have e1 : IntKind.i64.wrap (sumE (fun j => (kidAt l j).w) k + Gu.sumN (Gu.setV gs e) k + Gu.setV gs e k) = sumE (fun j => (kidAt l j).w) k + Gu.sumN (Gu.setV gs e) (k + 1) := by rw [IntWalk.i64_in _ (by omega)]; omega
      rw [e1]
      rw [IntWalk.i64_in _ (by omega)]
      omega
  have hplX : ∀ k, k < l.length → plX l (lAt (sprS l gs wd)) k = sumE (fun j => (kidAt l j).w) k + Gu.sumN (Gu.setV gs e) (k + 1) := fun k hk => by
    have h2 := small_w hs hn (k := k) (by omega)
    have h5 := hpl (k + 1) (by omega)
    have h6 : Gu.sumN (Gu.setV gs e) (k + 1) = Gu.sumN (Gu.setV gs e) k + Gu.setV gs e k := rfl
    rw [plX, hend k (by omega), hat k (by omega), IntWalk.i64_in _ (by omega)]
    omega
  have hsp : ∀ k, k ≤ l.length + 1 → spW l (sprS l gs wd) k = sumE (fun j => (kidAt l j).w) l.length + Gu.sumN (Gu.setV gs e) k := by
    intro k
    induction k with
    | zero => intro _; show widX l l.length = _ + 0; rw [hwx]; omega
    | succ k ih =>
      intro hk
      have h4 := hpl k (by omega)
      have h5 := hpl (k + 1) (by omega)
      have h6 : Gu.sumN (Gu.setV gs e) (k + 1) = Gu.sumN (Gu.setV gs e) k + Gu.setV gs e k := rfl
      rw [spW, ih (by omega), hat k (by omega), IntWalk.i64_in _ (by omega)]
      omega
  have hW : spW l (sprS l gs wd) (l.length + 1) = wd - Gu.restV gs e := by rw [hsp _ (Nat.le_refl _)]; omega
  have hH := maxH_small (l := l) (K := 2097152) (by omega) (fun i hi => by have := (hs i hi).1; omega) l.length (Nat.le_refl _)
  have hD := maxD_small (l := l) (K := 2097152) (by omega) (fun i hi => by have := (hs i hi).1; omega) l.length (Nat.le_refl _)
  have hval : validB (rowB l (plX l (lAt (sprS l gs wd))) (wd - Gu.restV gs e)) := rowB_valid (fun i hi => (hav i hi).1) (fun i hi => by
    rw [hplX i hi]
    have h2 := small_w hs hn (k := i) (by omega)
    have h5 := hpl (i + 1) (by omega)
    unfold rngL; omega) (by unfold rngL; omega) (by unfold rngL; omega) (by unfold rngL; omega) (by omega) (nest_le fun i hi => by have := (hs i hi).2.2; omega)
  have h3 := spr_3 hV hok
  rw [hW] at h3
  have hp := put_yes hval
  refine ⟨h3.1.trans hp.1, hSL.2, hSL.1, ?_, ?_, ?_, rfl⟩
  · rw [hre, hR]; exact h3.2.trans hp.2
  · rw [hre, hR]; exact hrb
  · have h4 := hpl l.length (by omega)
    have h5 := hpl (l.length + 1) (by omega)
    have h6 : Gu.sumN (Gu.setV gs e) (l.length + 1) = Gu.sumN (Gu.setV gs e) l.length + Gu.setV gs e l.length := rfl
    rw [hre, hR, hend l.length (Nat.le_refl _), hat l.length (by omega), IntWalk.i64_in _ (by omega)]
    omega
end Go.Proofs.Ytjckbdbjcgjcaaa
