/- The closure that hands out shares, whatever its numbers are: with the wraps as they stand. -/
import Derived.Test.YtnhplbhjbpdcaaaGluPlain3
namespace Go.Proofs.Ytnhplbhjbpdcaaa
open Go.RowKit
/-- What a share changes: the sum, the share's end, the share. -/
def shS (s part : Int) : Int := IntKind.i64.wrap (s + part)
def shQ (g T s' : Int) : Int := IntKind.i64.wrap ((IntKind.i64.wrap (g * s')).tdiv T)
def shVv (q b : Int) : Int := IntKind.i64.wrap (q - b)
set_option maxHeartbeats 1000000 in
theorem share_gen (bs bg bT bb : Nat) (s0 g T b part : Int) (w : World) (hs : Boxed w bs 3 (.int .i64 s0)) (hg : Boxed w bg 3 (.int .i64 g)) (hT : Boxed w bT 3 (.int .i64 T)) (hb : Boxed w bb 3 (.int .i64 b)) (d1 : bs ≠ bg) (d2 : bs ≠ bT) (d3 : bs ≠ bb) (h5 : 0 < T) :
    Calls Try.prog 37 #[.int .i64 part, .pointer (some ⟨bs, 0, none⟩), .pointer (some ⟨bg, 0, none⟩), .pointer (some ⟨bT, 0, none⟩), .pointer (some ⟨bb, 0, none⟩)] w fun e w' =>
      e = .returned (.int .i64 (shVv (shQ g T (shS s0 part)) b)) ∧ w' = (w.setCell ⟨bs, 0, none⟩ (.int .i64 (shS s0 part))).setCell ⟨bb, 0, none⟩ (.int .i64 (shQ g T (shS s0 part))) := by
  obtain ⟨s1, hs1⟩ : ∃ x, IntKind.i64.wrap (s0 + part) = x := ⟨_, rfl⟩
  obtain ⟨m, hm⟩ : ∃ x, IntKind.i64.wrap (g * s1) = x := ⟨_, rfl⟩
  obtain ⟨q, hq⟩ : ∃ x, IntKind.i64.wrap (m.tdiv T) = x := ⟨_, rfl⟩
  obtain ⟨v, hv⟩ : ∃ x, IntKind.i64.wrap (q - b) = x := ⟨_, rfl⟩
  have hS : shS s0 part = s1 := hs1
  have hQ : shQ g T s1 = q := by unfold shQ; rw [hm, hq]
  have hV : shVv q b = v := hv
  rw [hS, hQ, hV]
  clear hS hQ hV
  have e1 := hs.cell
  have z1 := hs.frozen
  have hs' := hs.set (.int .i64 s1)
  have e2 : (w.setCell ⟨bs, 0, none⟩ (.int .i64 s1)).cell? ⟨bg, 0, none⟩ = some (.int .i64 g) := (hg.other (Ne.symm d1) _).cell
  have e3 : (w.setCell ⟨bs, 0, none⟩ (.int .i64 s1)).cell? ⟨bT, 0, none⟩ = some (.int .i64 T) := (hT.other (Ne.symm d2) _).cell
  have e5 : (w.setCell ⟨bs, 0, none⟩ (.int .i64 s1)).cell? ⟨bb, 0, none⟩ = some (.int .i64 b) := (hb.other (Ne.symm d3) _).cell
  have z5 := (hb.other (Ne.symm d3) (.int .i64 s1)).frozen
  have e6 := hs'.cell
  have s5 : ¬ T = 0 := by omega
  clear hs hg hT hb hs'
  go_enter Try.func37, Try.ntmps37
  go_wp2
  go_ret
  exact ⟨rfl, rfl⟩
end Go.Proofs.Ytnhplbhjbpdcaaa
