/- The law's example: plain words. When the list of a row is valid. -/
import Derived.Test.YtjckbdbjcgjcaaaHpMisc
namespace Go.Proofs.Ytjckbdbjcgjcaaa
open Go.RowKit
theorem nm_nil : (⟨#[]⟩ : ByteArray).toList = [] := by simp [ByteArray.toList, ByteArray.toList.loop, ByteArray.size]
theorem rule_valid {a b c : Int} (h1 : rngL a) (h2 : rngL b) (h3 : rngL c) : validB (ruleB' a b c) := by
  refine ⟨(properB_eq _).2 ⟨⟨fun k hk => ?_, .inr (.inl ⟨rfl, nm_nil, rfl, rfl⟩), fun k hk => absurd hk (Nat.not_lt_zero _), .inl ⟨rfl, rfl⟩⟩, properL_nil⟩, by rw [cntB_eq]; show 1 + cntL [] ≤ _; rw [cntL_nil]; omega, by rw [nestB_eq]; show nestL [] + 1 ≤ _; rw [nestL_nil]; omega⟩
  match k, hk with
  | 0, _ => exact h1
  | 1, _ => exact h2
  | 2, _ => exact h3
  | 3, _ => show rngL 0; unfold rngL; omega
  | 4, _ => show rngL 0; unfold rngL; omega
theorem valid_num {b : Bx} (h : validB b) : rngL b.w ∧ rngL b.h ∧ rngL b.d ∧ rngL b.x ∧ rngL b.y := by
  have h1 := ((properB_eq _).1 h.1).1.1
  exact ⟨h1 0 (by omega), h1 1 (by omega), h1 2 (by omega), h1 3 (by omega), h1 4 (by omega)⟩
theorem proper_atX {b : Bx} {x : Int} (h : properB b) (hx : rngL x) : properB (b.atX x) := by
  have h0 := (properB_eq _).1 h
  have hn := h0.1.1
  refine (properB_eq _).2 ⟨⟨fun k hk => ?_, h0.1.2.1, h0.1.2.2⟩, h0.2⟩
  match k, hk with
  | 0, _ => exact hn 0 (by omega)
  | 1, _ => exact hn 1 (by omega)
  | 2, _ => exact hn 2 (by omega)
  | 3, _ => exact hx
  | 4, _ => exact hn 4 (by omega)
theorem atX_nest (t : Bx) (x : Int) : nestB (t.atX x) = nestB t := by rw [nestB_eq, nestB_eq]; rfl
theorem movedX_nest (l : List Bx) (P : Nat → Int) : nestL (movedX l P) = nestL l := by
  have hk : ∀ n, n ≤ l.length → nestL ((movedX l P).take n) = nestL (l.take n) := fun n => by
    induction n with
    | zero => intro _; simp
    | succ n ih =>
      intro hn
      rw [nest_take _ (by rw [movedX_len]; omega), nest_take _ (by omega), ih (by omega), movedX_at (by omega), atX_nest]
  have := hk l.length (Nat.le_refl _)
  rw [List.take_length, ← movedX_len l P, List.take_length] at this
  exact this
/-- The list of a row is valid if its numbers are, and it is not too deep. -/
theorem rowB_valid {l : List Bx} {P : Nat → Int} {W : Int} (hv : ∀ i, i < l.length → properB (kidAt l i)) (hP : ∀ i, i < l.length → rngL (P i)) (hW : rngL W) (hH : rngL (maxH l l.length)) (hD : rngL (maxD l l.length)) (hc : cntL l ≤ 19999) (hn : nestL l ≤ 99) : validB (rowB l P W) := by
  refine ⟨(properB_eq _).2 ⟨⟨fun k hk => ?_, .inr (.inr ⟨rfl, nm_nil, rfl⟩), fun k hk => absurd hk (Nat.not_lt_zero _), .inl ⟨rfl, rfl⟩⟩, ?_⟩, ?_, ?_⟩
  · match k, hk with
    | 0, _ => exact hW
    | 1, _ => exact hH
    | 2, _ => exact hD
    | 3, _ => show rngL 0; unfold rngL; omega
    | 4, _ => show rngL 0; unfold rngL; omega
  · show properL (movedX l P)
    refine (properL_iff _).2 fun i hi => ?_
    rw [movedX_len] at hi
    rw [movedX_at hi]
    exact proper_atX (hv i hi) (hP i hi)
  · rw [cntB_eq]
    show 1 + cntL (movedX l P) ≤ _
    rw [movedX_cnt]
    omega
  · rw [nestB_eq]
    show nestL (movedX l P) + 1 ≤ _
    rw [movedX_nest]
    omega
theorem rule_cnt (a b c : Int) : cntB (ruleB' a b c) = 1 := by rw [cntB_eq]; show 1 + cntL [] = 1; rw [cntL_nil]
theorem rule_nest (a b c : Int) : nestB (ruleB' a b c) = 1 := by rw [nestB_eq]; show nestL [] + 1 = 1; rw [nestL_nil]
def exL : List Bx := [ruleB' 10 4 0, ruleB' 6 2 3]
def exG : List Int := [0, 5]
def exB : Bx := .mk 3 ⟨#[]⟩ 0 21 4 3 0 0 [(ruleB' 10 4 0).atX 0, (ruleB' 6 2 3).atX 15] 0 []
def exC : Bx := .mk 3 ⟨#[]⟩ 0 12 1 0 0 0 [(ruleB' 7 1 0).atX 3] 0 []
theorem ex_all : allV exL := fun i hi => by
  match i, hi with
  | 0, _ => exact rule_valid (by unfold rngL; omega) (by unfold rngL; omega) (by unfold rngL; omega)
  | 1, _ => exact rule_valid (by unfold rngL; omega) (by unfold rngL; omega) (by unfold rngL; omega)
theorem ex_end : endX exL (lAt exG) 2 = 21 := by decide
theorem ex_pl0 : plX exL (lAt exG) 0 = 0 := by decide
theorem ex_pl1 : plX exL (lAt exG) 1 = 15 := by decide
theorem ex_H : maxH exL 2 = 4 := by decide
theorem ex_D : maxD exL 2 = 3 := by decide
theorem ex_cnt : cntL exL = 2 := by
  show cntL [_, _] = _
  rw [cntL_cons, cntL_cons, rule_cnt, rule_cnt, cntL_nil]
theorem ex_nest : nestL exL = 1 := by
  show nestL [_, _] = _
  rw [nestL_cons, nestL_cons, rule_nest, rule_nest, nestL_nil]
  rfl
theorem ex_row : rowE exL exG = 0 ∧ rowR exL exG = exB := by
  have h := row_3 (l := exL) (g := exG) ex_all ⟨rfl, fun k hk => by
    match k, hk with
    | 0, _ => show rngL 0; unfold rngL; omega
    | 1, _ => show rngL 5; unfold rngL; omega⟩
  have hv : validB (rowB exL (plX exL (lAt exG)) 21) := rowB_valid (fun i hi => (ex_all i hi).1) (fun i hi => by
    match i, hi with
    | 0, _ => rw [ex_pl0]; unfold rngL; omega
    | 1, _ => rw [ex_pl1]; unfold rngL; omega) (by unfold rngL; omega) (by show rngL (maxH exL 2); rw [ex_H]; unfold rngL; omega) (by show rngL (maxD exL 2); rw [ex_D]; unfold rngL; omega) (by rw [ex_cnt]; omega) (by rw [ex_nest]; omega)
  have hp := put_yes hv
  rw [show endX exL (lAt exG) exL.length = 21 from ex_end] at h
  refine ⟨h.1.trans hp.1, h.2.trans (hp.2.trans ?_)⟩
  unfold rowB exB listB
  have e1 : movedX exL (plX exL (lAt exG)) = [(ruleB' 10 4 0).atX (plX exL (lAt exG) 0), (ruleB' 6 2 3).atX (plX exL (lAt exG) 1)] := rfl
  rw [e1, ex_pl0, ex_pl1, show exL.length = 2 from rfl, ex_H, ex_D]
theorem ex_al : alE (ruleB' 7 1 0) 12 1 = 0 ∧ alR (ruleB' 7 1 0) 12 1 = exC := by
  have hr : validB (ruleB' 7 1 0) := rule_valid (by unfold rngL; omega) (by unfold rngL; omega) (by unfold rngL; omega)
  have h := al_3 (b := ruleB' 7 1 0) (wd := 12) (md := 1) hr ⟨by unfold rngL; omega, by show rngL 5; unfold rngL; omega, by omega, by omega⟩
  have hx : alX (ruleB' 7 1 0) 12 1 = 3 := by decide
  rw [hx] at h
  have hv : validB (rowB [ruleB' 7 1 0] (fun _ => 3) 12) := rowB_valid (fun i hi => (one_all hr i hi).1) (fun i hi => by unfold rngL; omega) (by unfold rngL; omega) (by show rngL (maxH [ruleB' 7 1 0] 1); rw [show maxH [ruleB' 7 1 0] 1 = 1 by decide]; unfold rngL; omega) (by show rngL (maxD [ruleB' 7 1 0] 1); rw [show maxD [ruleB' 7 1 0] 1 = 0 by decide]; unfold rngL; omega) (by rw [one_cnt, rule_cnt]; omega) (by rw [nestL_cons, rule_nest, nestL_nil]; omega)
  have hp := put_yes hv
  refine ⟨h.1.trans hp.1, h.2.trans (hp.2.trans ?_)⟩
  unfold rowB exC listB
  rw [show movedX [ruleB' 7 1 0] (fun _ => 3) = [(ruleB' 7 1 0).atX 3] from rfl, show [ruleB' 7 1 0].length = 1 from rfl, show maxH [ruleB' 7 1 0] 1 = 1 by decide, show maxD [ruleB' 7 1 0] 1 = 0 by decide]
end Go.Proofs.Ytjckbdbjcgjcaaa
