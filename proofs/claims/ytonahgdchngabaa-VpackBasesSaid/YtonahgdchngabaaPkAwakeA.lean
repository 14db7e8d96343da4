/- The law's example: plain words. -/
import Derived.Test.YtonahgdchngabaaPkMisc
namespace Go.Proofs.Ytonahgdchngabaa
open Go.RowKit
theorem nm_nil : (⟨#[]⟩ : ByteArray).toList = [] := by simp [ByteArray.toList, ByteArray.toList.loop, ByteArray.size]
theorem rule_valid {a b c : Int} (h1 : rngL a) (h2 : rngL b) (h3 : rngL c) : validB (ruleB' a b c) := by
  refine ⟨(properB_eq _).2 ⟨⟨fun k hk => ?_, .inr (.inl ⟨rfl, nm_nil, rfl, rfl⟩), fun k hk => absurd hk (Nat.not_lt_zero _), .inl ⟨rfl, rfl⟩⟩, properL_nil⟩, by rw [cntB_eq]; show 1 + cntL [] ≤ _; rw [cntL_nil]; omega, by rw [nestB_eq]; show nestL [] + 1 ≤ _; rw [nestL_nil]; omega⟩
  match k, hk with
  | 0, _ => exact h1
  | 1, _ => exact h2
  | 2, _ => exact h3
  | 3, _ => show rngL 0; unfold rngL; omega
  | 4, _ => show rngL 0; unfold rngL; omega
def exL : List Bx := [ruleB' 9 4 1, ruleB' 9 2 0, ruleB' 9 3 3]
def exG : List Int := [0, 2, 1]
def exB : Bx := .mk 3 ⟨#[]⟩ 0 9 9 7 0 0 [(ruleB' 9 4 1).atY 5, (ruleB' 9 2 0).atY 0, (ruleB' 9 3 3).atY (-4)] 0 []
theorem ex_col : colB exL exG 1 = exB := by
  unfold colB exB listP
  have e1 : movedY exL (colY exL exG 1) = [(ruleB' 9 4 1).atY 5, (ruleB' 9 2 0).atY 0, (ruleB' 9 3 3).atY (-4)] := rfl
  rw [e1]
  rfl
theorem ex_all : allV exL := fun i hi => by
  match i, hi with
  | 0, _ => exact rule_valid (by unfold rngL; omega) (by unfold rngL; omega) (by unfold rngL; omega)
  | 1, _ => exact rule_valid (by unfold rngL; omega) (by unfold rngL; omega) (by unfold rngL; omega)
  | 2, _ => exact rule_valid (by unfold rngL; omega) (by unfold rngL; omega) (by unfold rngL; omega)
theorem ex_valid : validB exB := by
  have hk : ∀ y, rngL y → ∀ a b c, rngL a → rngL b → rngL c → properB ((ruleB' a b c).atY y) := fun y hy a b c h1 h2 h3 => ((valid_atY (rule_valid h1 h2 h3)).2 hy).1
  have hc : ∀ a b c y, cntB ((ruleB' a b c).atY y) = 1 := fun a b c y => by rw [cntB_eq]; show 1 + cntL [] = 1; rw [cntL_nil]
  have hn : ∀ a b c y, nestB ((ruleB' a b c).atY y) = 1 := fun a b c y => by rw [nestB_eq]; show nestL [] + 1 = 1; rw [nestL_nil]
  refine ⟨(properB_eq _).2 ⟨⟨fun k hk => ?_, .inr (.inr ⟨rfl, nm_nil, rfl⟩), fun k hk => absurd hk (Nat.not_lt_zero _), .inl ⟨rfl, rfl⟩⟩, ?_⟩, ?_, ?_⟩
  · match k, hk with
    | 0, _ => show rngL 9; unfold rngL; omega
    | 1, _ => show rngL 9; unfold rngL; omega
    | 2, _ => show rngL 7; unfold rngL; omega
    | 3, _ => show rngL 0; unfold rngL; omega
    | 4, _ => show rngL 0; unfold rngL; omega
  · show properL [_, _, _]
    rw [properL_cons, properL_cons, properL_cons]
    exact ⟨hk _ (by unfold rngL; omega) _ _ _ (by unfold rngL; omega) (by unfold rngL; omega) (by unfold rngL; omega), hk _ (by unfold rngL; omega) _ _ _ (by unfold rngL; omega) (by unfold rngL; omega) (by unfold rngL; omega), hk _ (by unfold rngL; omega) _ _ _ (by unfold rngL; omega) (by unfold rngL; omega) (by unfold rngL; omega), properL_nil⟩
  · rw [cntB_eq]
    show 1 + cntL [_, _, _] ≤ _
    rw [cntL_cons, cntL_cons, cntL_cons, hc, hc, hc, cntL_nil]
    omega
  · rw [nestB_eq]
    show nestL [_, _, _] + 1 ≤ _
    rw [nestL_cons, nestL_cons, nestL_cons, hn, hn, hn, nestL_nil]
    omega
theorem ex_colE : colE exL exG 1 = 0 ∧ colR exL exG 1 = exB := by
  have h := colE_0 (l := exL) (g := exG) (b := 1) ex_all ⟨rfl, by omega, by show (1 : Int) < 3; omega⟩ (fun k hk => by
    match k, hk with
    | 0, _ => show rngL 0; unfold rngL; omega
    | 1, _ => show rngL 2; unfold rngL; omega
    | 2, _ => show rngL 1; unfold rngL; omega) (by show validB (colB exL exG 1); rw [ex_col]; exact ex_valid)
  exact ⟨h.1, h.2.trans ex_col⟩
theorem ex_cen : cenE (ruleB' 9 10 4) 25 = 0 ∧ cenR (ruleB' 9 10 4) 25 = (ruleB' 9 10 4).atY 22 := by
  have e : cenY (ruleB' 9 10 4) 25 = 22 := by decide
  have h := cenE_0 (b := ruleB' 9 10 4) (ax := 25) (rule_valid (by unfold rngL; omega) (by unfold rngL; omega) (by unfold rngL; omega)) ⟨by unfold rngL; omega, by show rngL 6; unfold rngL; omega⟩ (by rw [e]; unfold rngL; omega)
  rw [e] at h
  exact h
end Go.Proofs.Ytonahgdchngabaa
