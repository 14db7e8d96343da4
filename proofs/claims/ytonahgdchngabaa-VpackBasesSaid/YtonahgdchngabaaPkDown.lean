/- The reference's way down. -/
import Derived.Test.YtonahgdchngabaaPkPlain
namespace Go.Proofs.Ytonahgdchngabaa
open Go.RowKit
set_option maxRecDepth 100000 in
set_option maxHeartbeats 2000000 in
theorem rdown_any (A : Option Addr) (c : Nat) (l : List Bx) (B : Option Addr) (d : Nat) (g : List Int) (k : Nat) (w : World) (hk : k < l.length) (hl : l.length ≤ 1000) (hgl : g.length = l.length) (hav : allV l) (hgo : gapsOk g) (hK : Kids w 0 w.heap.size A l) (hI : Ints w 0 w.heap.size B g) :
    Calls Try.prog 27 #[.slice A l.length c, .slice B g.length d, .int .i64 (k : Int)] w fun e w' => e = .returned (.int .i64 (downI l g k)) ∧ Below w.heap.size w w' := by
  have HK := Lib.hid (And.intro hK (And.intro hI (And.intro hav (And.intro hgo hgl))))
  rw [hgl]
  clear hK hI hav hgo hgl
  go_enter Try.func27, Try.ntmps27
  go_wp2_with fail
  go_loopw [7, 8] (fun v q wr => ∃ j : Nat, j ≤ k ∧ q = .int .i64 ((j + 1 : Nat) : Int) ∧ v = .int .i64 (downI l g j) ∧ Below w.heap.size w wr) (fun _ q _ => k + 2 - (intOf q).toNat)
  case atStart => exact ⟨0, Nat.zero_le _, rfl, rfl, Below.refl _ _⟩
  case round =>
    obtain ⟨j, hj, rfl, rfl, hbw⟩ := hrel
    have HB := Lib.hid hbw
    clear hbw
    by_cases hlt : j < k
    · obtain ⟨kb, ko, A1, c1, A2, c2, rfl, _, hkb, hat1, _⟩ := HK.out.1.at (i := j) (by omega)
      obtain ⟨kb', ko', A3, c3, A4, c4, e, _, hkb', hat2, _⟩ := HK.out.1.at (i := j + 1) (by omega)
      injection e with e
      injection e with e1 e2
      subst e1 e2
      obtain ⟨gb, go, rfl, _, hgb, hgc⟩ := HK.out.2.1 (by have := HK.out.2.2.2.2; omega)
      have y5 : wr.cell? ⟨kb, ko + j * 11 + 5, none⟩ = some (.int .i64 (kidAt l j).d) := (HB.out.cell (p := ⟨kb, ko + j * 11 + 5, none⟩) hkb).trans (hat1 5 (by omega))
      have y4 : wr.cell? ⟨kb, ko + (j + 1) * 11 + 4, none⟩ = some (.int .i64 (kidAt l (j + 1)).h) := (HB.out.cell (p := ⟨kb, ko + (j + 1) * 11 + 4, none⟩) hkb).trans (hat2 4 (by omega))
      have yg := (HB.out.cell (p := ⟨gb, go + (j + 1), none⟩) hgb).trans (hgc (j + 1) (by have := HK.out.2.2.2.2; omega))
      have h1 := (HK.out.2.2.1.num (i := j) (by omega)).2.2.1
      have h3 := (HK.out.2.2.1.num (i := j + 1) (by omega)).2.1
      have h2 := HK.out.2.2.2.1 (j + 1) (by have := HK.out.2.2.2.2; omega)
      have hdb := down_bound HK.out.2.2.1 HK.out.2.2.2.1 HK.out.2.2.2.2 j (by omega)
      have HDN : Hid (downI l g (j + 1) = downI l g j + distI l g j) := rfl
      obtain ⟨a, ha⟩ : ∃ a, (kidAt l j).d = a := ⟨_, rfl⟩
      obtain ⟨b, hb⟩ : ∃ b, (kidAt l (j + 1)).h = b := ⟨_, rfl⟩
      obtain ⟨x, hx⟩ : ∃ x, lAt g (j + 1) = x := ⟨_, rfl⟩
      obtain ⟨y, hy⟩ : ∃ y, downI l g j = y := ⟨_, rfl⟩
      have HDI : Hid (distI l g j = a + x + b) := by show _ = _; rw [distI, ha, hb, hx]
      unfold rngL at h1 h2 h3
      rw [ha] at y5 h1
      rw [hb] at y4 h3
      rw [hx] at yg h2
      rw [hy] at hdb HDN ⊢
      have s1 : IntKind.i64.wrap (((j + 1 : Nat) : Int) - 1) = (j : Int) := by rw [IntWalk.i64_in _ (by omega)]; omega
      have s2 : IntKind.i64.wrap (a + x) = a + x := IntWalk.i64_in _ (by omega)
      have s3 : IntKind.i64.wrap (a + x + b) = a + x + b := IntWalk.i64_in _ (by omega)
      have s4 : IntKind.i64.wrap (y + (a + x + b)) = y + (a + x + b) := IntWalk.i64_in _ (by omega)
      have hj1 : j < l.length := by omega
      have hj2 : j + 1 < l.length := by omega
      have hle : j + 1 ≤ k := by omega
      clear hat1 hat2 hgc ha hb hx hy
      go_wp2_with fail
      go_quiet (fail)
      go_wp2_with fail
      go_roundw
      case rel => exact ⟨j + 1, by omega, by go_num, by rw [HDN.out, HDI.out], below_drewN HB.out nq⟩
      case measure => simp [intOf]; omega
    · obtain rfl : j = k := by omega
      have hgt : ¬ (j + 1 ≤ j) := by omega
      go_wp2
      go_ret
      exact ⟨rfl, HB.out⟩
end Go.Proofs.Ytonahgdchngabaa
