/- vpack.Column's closure: the distance between two kids. -/
import Derived.Test.YtonahgdchngabaaPkLen
import Derived.Test.YtonahgdchngabaaRowCp
namespace Go.Proofs.Ytonahgdchngabaa
open Go.RowKit
def distI (l : List Bx) (g : List Int) (i : Nat) : Int := (kidAt l i).d + lAt g (i + 1) + (kidAt l (i + 1)).h
set_option maxRecDepth 100000 in
set_option maxHeartbeats 1000000 in
theorem dist_any (p q : Nat) (A : Option Addr) (c : Nat) (l : List Bx) (B : Option Addr) (d : Nat) (g : List Int) (i : Nat) (w : World) (hi : i + 1 < l.length) (hl : l.length ≤ 100000) (hg : g.length = l.length) (hp : w.heap[p]? = some (.cells #[.slice A l.length c] 22 (0, 0))) (hq : w.heap[q]? = some (.cells #[.slice B g.length d] 23 (0, 0)))
    (hK : Kids w 0 w.heap.size A l) (hI : Ints w 0 w.heap.size B g) (h1 : rngL (kidAt l i).d) (h2 : rngL (lAt g (i + 1))) (h3 : rngL (kidAt l (i + 1)).h) :
    Calls Try.prog 23 #[.int .i64 (i : Int), .pointer (some ⟨p, 0, none⟩), .pointer (some ⟨q, 0, none⟩)] w fun e w' => e = .returned (.int .i64 (distI l g i)) ∧ ∃ n, w' = w.drewN n := by
  unfold rngL at h1 h2 h3
  have x1 : w.cell? ⟨p, 0, none⟩ = some (.slice A l.length c) := blk_cell hp 0 _ rfl
  have x2 : w.cell? ⟨q, 0, none⟩ = some (.slice B g.length d) := blk_cell hq 0 _ rfl
  obtain ⟨kb, ko, A1, c1, A2, c2, rfl, _, hkb, hat1, _⟩ := hK.at (i := i) (by omega)
  obtain ⟨kb', ko', A3, c3, A4, c4, e, _, hkb', hat2, _⟩ := hK.at (i := i + 1) hi
  injection e with e
  injection e with e1 e2
  subst e1 e2
  obtain ⟨gb, go, rfl, _, _, hgc⟩ := hI (by omega)
  have y5 : w.cell? ⟨kb, ko + i * 11 + 5, none⟩ = some (.int .i64 (kidAt l i).d) := hat1 5 (by omega)
  have y4 : w.cell? ⟨kb, ko + (i + 1) * 11 + 4, none⟩ = some (.int .i64 (kidAt l (i + 1)).h) := hat2 4 (by omega)
  have yg := hgc (i + 1) (by omega)
  rw [hg] at x2
  have s1 : IntKind.i64.wrap ((i : Int) + 1) = ((i + 1 : Nat) : Int) := by rw [IntWalk.i64_in _ (by omega)]; rfl
  obtain ⟨a, ha⟩ : ∃ a, (kidAt l i).d = a := ⟨_, rfl⟩
  obtain ⟨b, hb⟩ : ∃ b, (kidAt l (i + 1)).h = b := ⟨_, rfl⟩
  obtain ⟨x, hx⟩ : ∃ x, lAt g (i + 1) = x := ⟨_, rfl⟩
  have HE : Hid (distI l g i = a + x + b) := by show _ = _; rw [distI, ha, hb, hx]
  rw [ha] at y5 h1
  rw [hb] at y4 h3
  rw [hx] at yg h2
  have s2 : IntKind.i64.wrap (a + x) = a + x := IntWalk.i64_in _ (by omega)
  have s3 : IntKind.i64.wrap (a + x + b) = a + x + b := IntWalk.i64_in _ (by omega)
  clear hK hI hp hq hat1 hat2 hgc ha hb hx
  have hn : i < l.length := by omega
  go_enter Try.func23, Try.ntmps23
  go_wp2_with fail
  go_quiet (fail)
  go_wp2
  go_ret
  exact ⟨by rw [HE.out]; rfl, _, rfl⟩
end Go.Proofs.Ytonahgdchngabaa
