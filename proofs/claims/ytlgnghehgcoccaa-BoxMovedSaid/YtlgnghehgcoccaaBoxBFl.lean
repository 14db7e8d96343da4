/- box.Flat. -/
import Derived.Test.YtlgnghehgcoccaaBoxVisS
import Derived.Test.YtlgnghehgcoccaaRegInv2
import Derived.Maps.AppendAt
namespace Go.Proofs.Ytlgnghehgcoccaa
open Go.RowKit
attribute [local go_sem] Oper.semAt_some
/-- Places in a row of the callee's own. -/
def BFlPost (F : List Pl) (w : World) (e : Ending) (w' : World) : Prop := (∃ A2 c2, e = .returned (.slice A2 F.length c2) ∧ w'.ownsRow w.heap.size 42 8 (.slice A2 F.length c2) F.length (plC F)) ∧ Below w.heap.size w w'
theorem infoBPl : (Try.prog.info? 42).map (fun i => (i.zero, i.size, i.bytes)) = some (some (.agg (Pl.row ⟨0, 0, ⟨#[]⟩, 0, 0, 0, 0, 0⟩)), 8, 72) := by kernel_rfl
/-- What lies in memory while the loop runs. -/
def FlI (W0 : World) (n₀ s : Nat) (pre : List (VisIn W0 n₀)) (W : World) : Prop :=
  (∃ v, Boxed W (s + 1) 39 v ∧ W.ownsRow (s + 1) 42 8 v (flatV (pre.map vKey)).length (plC (flatV (pre.map vKey))) ∧ True) ∧ Below n₀ W0 W ∧ s + 3 ≤ W.heap.size
theorem size_own {β : Type} (B n : Nat) : OwnFrom B (fun (_ : β) W => n ≤ W.heap.size) := fun _ _ _ _ hs hg _ => Nat.le_trans hs hg.size
theorem FlI.own {W0 : World} {n₀ s B : Nat} (hn : n₀ ≤ W0.heap.size) (hB : n₀ ≤ B) : OwnFrom B (FlI W0 n₀ s) :=
  OwnFrom.and (Own.from (holdsRow_own (s + 1) (s + 1) 39 42 8 (fun pre : List (VisIn W0 n₀) => (flatV (pre.map vKey)).length) (fun pre => plC (flatV (pre.map vKey))) (fun _ _ => True)) B) (OwnFrom.and (ownFrom_below hn hB) (size_own _ _))
theorem KeepV.appended {W w1 : World} {n₀ B k : Nat} {v v' : Value} {xs : List Value} {tmp : Obj} (hv : Boxed W B 39 v) (hrow : W.ownsRow n₀ 42 8 v k xs) (hgrow : (W.alloc tmp).grownBy w1 v.ownBlock) (hb : Below n₀ W (w1.setCell ⟨B, 0, none⟩ v')) : KeepV n₀ W (w1.setCell ⟨B, 0, none⟩ v') := by
  refine ⟨hb, fun q cs r hq => ?_⟩
  have hlt := (Array.getElem?_eq_some_iff.1 hq).1
  have h1 := (Below.heap_alloc W tmp q hlt).trans hq
  have h2 : w1.heap[q]? = some (Obj.cells cs 58 r) := (hgrow.block q (by simp; omega) (fun e => by
    rcases hrow.2 with ⟨rfl, _⟩ | ⟨g, cap, cur, rfl, _, hg, _⟩
    · cases e
    · cases e
      rw [hg] at hq
      cases hq)).trans h1
  refine (Below.heap_setCell _ ⟨B, 0, none⟩ _ q ?_).trans h2
  rintro rfl
  have hv' : W.heap[q]? = some (.cells #[v] 39 (0, 0)) := hv
  rw [hv'] at hq
  cases hq
theorem own_1 {t : Bx} {x y : Int} (h : t.k = 1) : ownPl t x y = [⟨1, t.sz, t.nm, x, y, t.w, t.h, t.d⟩] := by unfold ownPl; rw [if_pos h]
theorem own_2 {t : Bx} {x y : Int} (h : t.k = 2) : ownPl t x y = [⟨2, 0, ⟨#[]⟩, x, y, t.w, t.h, t.d⟩] := by unfold ownPl; rw [if_neg (by omega), if_pos h]
theorem own_0 {t : Bx} {x y : Int} (h1 : ¬ t.k = 1) (h2 : ¬ t.k = 2) : ownPl t x y = [] := by unfold ownPl; rw [if_neg h1, if_neg h2]
theorem flatV_len : ∀ l : List V3, (flatV l).length ≤ l.length
  | [] => Nat.le_refl _
  | p :: ps => by
    have h1 := own_len p.1 p.2.1 p.2.2
    have h2 := flatV_len ps
    rw [flatV, List.length_append, List.length_cons]
    omega
theorem flatV_snoc {W0 : World} {n₀ : Nat} {pre : List (VisIn W0 n₀)} {X : VisIn W0 n₀} {u : Bx} {x y : Int} (h : vKey X = (u, x, y)) : flatV ((pre ++ [X]).map vKey) = flatV (pre.map vKey) ++ ownPl u x y := by
  rw [List.map_append, flatV_append]
  show _ ++ flatV [vKey X] = _
  rw [h]
  show _ ++ (ownPl u x y ++ []) = _
  rw [List.append_nil]
theorem plC_snoc (l : List Pl) (p : Pl) : plC (l ++ [p]) = plC l ++ p.row.toList := by
  rw [plC_append]
  show _ ++ (p.row.toList ++ []) = _
  rw [List.append_nil]
theorem cells_new (w : World) (cs : Array Value) (t : TypeId) : ∀ j u, cs.toList[j]? = some u → (w.alloc (.cells cs t)).cell? ((⟨w.heap.size, 0, none⟩ : Addr).add j) = some u := fun j u hu => by
  rw [Addr.add_lit, Nat.zero_add]
  exact blk_cell (blk_new w _) j u (by simpa using hu)
theorem row_slice {W : World} {base size n : Nat} {e : TypeId} {v : Value} {xs : List Value} (h : W.ownsRow base e size v n xs) : ∃ A c, v = .slice A n c := by
  rcases h.2 with ⟨rfl, rfl⟩ | ⟨g, cap, _, rfl, _⟩
  · exact ⟨_, _, rfl⟩
  · exact ⟨_, _, rfl⟩
theorem row_mono {W : World} {base base' size n : Nat} {e : TypeId} {v : Value} {xs : List Value} (h : W.ownsRow base e size v n xs) (hb : base' ≤ base) : W.ownsRow base' e size v n xs :=
  ⟨h.1, h.2.imp id fun ⟨g, cap, cur, h1, h2, h3⟩ => ⟨g, cap, cur, h1, Nat.le_trans hb h2, h3⟩⟩
set_option maxRecDepth 100000 in
set_option maxHeartbeats 2000000 in
theorem bflat_any (t : Bx) (A : Option Addr) (c : Nat) (A' : Option Addr) (c' : Nat) (w : World) (hc : cntB t ≤ 100000) (hK : Kids w 0 w.heap.size A t.kids) :
    Calls Try.prog 21 #[.agg (bxA t A c A' c')] w (BFlPost (flatB t 0 0) w) := by
  have HK := Lib.hid hK
  have HC := Lib.hid hc
  clear hK hc
  obtain ⟨i2, hi2, hz0, hz1, hz2⟩ := info_parts infoBPl
  obtain ⟨W0, hW0⟩ : ∃ W0, w.alloc (.cells (bxA t A c A' c') 25) = W0 := ⟨_, rfl⟩
  obtain ⟨s, hs⟩ : ∃ s, w.heap.size = s := ⟨_, rfl⟩
  have hs0 : W0.heap.size = s + 1 := by rw [← hW0, ← hs]; simp
  have D0 : Hid (W0.heap[s]? = some (.cells (bxA t A c A' c') 25 (0, 0))) := by rw [← hW0, ← hs]; exact blk_new _ _
  have HB0 : Hid (Below s w W0) := by rw [← hW0, ← hs]; exact one_below _ _
  have HS := Lib.hid (And.intro hs hs0)
  refine (callsIn_wide (n := 4)).1 ?_
  refine callsIn_of_wp_marks Try.func21 rfl trivial ?_ rfl
  simp only [Try.ntmps21, List.size_toArray, List.length_cons, List.length_nil, Nat.reduceAdd, Nat.reduceSub, Array.replicate_succ, Array.replicate_zero, List.push_toArray, List.append_toArray, List.nil_append, List.cons_append]
  gi_wp2_with (refine ⟨trivial, ?_⟩; gi_at_call 33; refine (callsIn_wide.2 (visits_any _ _)).mono ?_; rintro e w' ⟨rfl, rfl⟩)
  have HBX : Hid (Boxed ((W0.alloc (.cells #[.slice none 0 0] 39)).alloc (.cells #[.pointer (some ⟨s, 0, none⟩)] 48)) (s + 2) 48 (.pointer (some ⟨s, 0, none⟩))) := by
    have h := Boxed.new (W0.alloc (.cells #[.slice none 0 0] 39)) 48 (.pointer (some ⟨s, 0, none⟩))
    rw [World.size_alloc, hs0] at h
    exact h
  have HBL : Hid (Boxed ((W0.alloc (.cells #[.slice none 0 0] 39)).alloc (.cells #[.pointer (some ⟨s, 0, none⟩)] 48)) (s + 1) 39 (.slice none 0 0)) := by
    have h := (Boxed.new W0 39 (.slice none 0 0)).alloc (.cells #[.pointer (some ⟨s, 0, none⟩)] 48)
    rw [hs0] at h
    exact h
  have HB3 : Hid (Below (s + 1) W0 ((W0.alloc (.cells #[.slice none 0 0] 39)).alloc (.cells #[.pointer (some ⟨s, 0, none⟩)] 48))) := by
    have h := two_below W0 (.cells #[.slice none 0 0] 39) (.cells #[.pointer (some ⟨s, 0, none⟩)] 48)
    rw [hs0] at h
    exact h
  have HS3 : Hid (((W0.alloc (.cells #[.slice none 0 0] 39)).alloc (.cells #[.pointer (some ⟨s, 0, none⟩)] 48)).heap.size = s + 3) := by show _ = _; rw [World.size_alloc, World.size_alloc, hs0]
  generalize ((W0.alloc (.cells #[.slice none 0 0] 39)).alloc (.cells #[.pointer (some ⟨s, 0, none⟩)] 48)) = W3 at HBX HBL HB3 HS3 ⊢
  have hat0 : BoxAt W0 s 0 t A c A' c' := fun j hj => by rw [Nat.zero_add]; exact cell_of_row _ _ _ _ _ _ D0.out
  have hK0 : Kids W0 0 (s + 1) A t.kids := by
    have h := HK.out
    rw [hs] at h
    exact (h.low HB0.out).mono (Nat.le_refl _) (Nat.le_succ _)
  refine wpIn_rangeFunc_ownH rfl (by omega) (gf := 37) (lb := #[.pointer (some ⟨s + 2, 0, none⟩)]) rfl trivial (enters_of Try.func37 (by kernel_rfl) rfl)
    (vis_stops (4 - 1) (by omega) (s + 2) (s + 1) s 0 W0 t A c A' c' HC.out (Nat.lt_succ_self s) hat0 hK0 W3 HB3.out (by have := HS3.out; omega) HBX.out) (fun a b => a.trans b) (KeepV.put (by have := HS3.out; omega)) (Below.refl _ _) (fun _ => rfl)
    (FlI W0 (s + 1) s) (fun _ _ _ => False) (FlI.own (by omega) (by have := HS3.out; omega)) (fun _ _ _ _ _ hs _ _ => hs) ⟨⟨_, HBL.out, ⟨rfl, .inl ⟨rfl, rfl⟩⟩, trivial⟩, HB3.out, by have := HS3.out; omega⟩
    (fun x a' W => ∃ Bx, s + 3 ≤ Bx ∧ W.heap[Bx]? = some (.cells #[.pointer (some ⟨x.val.b, x.val.o, none⟩), .int .i64 x.val.x, .int .i64 x.val.y] 58 (0, 0)) ∧ a' = { tmps := #[.agg (bxA t A c A' c'), .pointer (some ⟨s, 0, none⟩), .slice none 0 0, .pointer (some ⟨s + 1, 0, none⟩), .pointer (some ⟨Bx, 0, none⟩), undef, .func (.func 37) #[] #[.pointer (some ⟨s + 1 + 1, 0, none⟩)], .agg #[.pointer (some ⟨x.val.b, x.val.o, none⟩), .int .i64 x.val.x, .int .i64 x.val.y], undef, undef, undef, undef, undef, undef, undef, undef, undef, undef, undef, undef, undef, undef, undef, undef, undef, undef, undef, undef, undef, undef, undef, undef, undef, undef, undef, undef, undef, undef, undef, undef, undef, undef, undef, undef, undef, undef, undef, undef, undef, undef, undef, undef, undef, undef, undef, undef, undef, undef, undef, undef, undef, undef, undef, undef, undef, undef, undef], defers := [] })
    (fun x a' _ X Y row hs hg hr => by
      obtain ⟨Bx, h1, h2, h3⟩ := hs
      refine ⟨Bx, h1, (hg.block Bx (Array.getElem?_eq_some_iff.1 h2).1 fun e => ?_).trans h2, h3⟩
      obtain ⟨_, o, ho, hc⟩ := hr Bx e.symm
      rw [h2] at ho
      cases ho
      cases hc)
    ?assign ?body ?done ?stop
  case stop => exact fun _ _ _ _ _ _ h => h.elim
  case assign =>
    rintro l pre x W K hI hK
    simp only [vEnc, Vis.val]
    gi_wp2
    exact hK _ _ ((KeepsOthers.alloc _ _).from _) (KeepV.of (one_below _ _) (by have := hI.2.2; omega)) ((FlI.own (B := W3.heap.size) (by omega) (by have := HS3.out; omega)).alloc _ hI) ⟨W.heap.size, hI.2.2, blk_new _ _, rfl⟩
  case done =>
    rintro D ys W hD hys hI hK
    obtain ⟨⟨v, hv, hrow, -⟩, hbw, hsz⟩ := hI
    rw [hys, flat_vis (cntB t) t (Nat.le_refl _)] at hrow
    obtain ⟨A2, c2, rfl⟩ := row_slice hrow
    have HROW := Lib.hid hrow
    have HBW := Lib.hid hbw
    have e0 := hv.cell
    clear hrow hbw hys hv
    gi_wp2
    refine ⟨by simp, .inl ⟨_, _, rfl, run_takeDeferred hK, ?_⟩⟩
    refine ⟨_, results_tmp rfl _ _ _, ?_⟩
    have hb2 : Below (s + 1) W0 (W.putObj D (.deferred none)) := HBW.out.trans (belowK_b (w := W0) (by omega) W D _ _ (by have := HS3.out; omega) hK rfl rfl)
    unfold BFlPost
    rw [hs]
    exact ⟨⟨A2, c2, rfl, row_mono (ownsRow_putObj HROW.out _ hK rfl) (by omega)⟩, HB0.out.trans (hb2.mono (by omega))⟩
  case body =>
    rintro l pre x a' W hl ⟨r, hr⟩ hI ⟨Bx, hBx, bX, rfl⟩ hlt
    obtain ⟨⟨b, o, u, x, y⟩, hok⟩ := x
    obtain ⟨hb, A1, c1, A2, c2, hat⟩ := hok
    dsimp only at bX ⊢
    obtain ⟨X, hX⟩ : ∃ X : VisIn W0 (s + 1), X = ⟨⟨b, o, u, x, y⟩, hb, A1, c1, A2, c2, hat⟩ := ⟨_, rfl⟩
    have HKEY : Hid (vKey X = (u, x, y)) := by rw [hX]; rfl
    rw [← hX]
    clear hX
    obtain ⟨F, hF⟩ : ∃ F, flatV (pre.map vKey) = F := ⟨_, rfl⟩
    have hFl : F.length ≤ 100000 := by
      have h1 := flatV_len (pre.map vKey)
      rw [List.length_map, hF] at h1
      have := HC.out
      omega
    have HFN : Hid (flatV ((pre ++ [X]).map vKey) = F ++ ownPl u x y) := by show _ = _; rw [flatV_snoc HKEY.out, hF]
    obtain ⟨⟨vv, hv, hrow, -⟩, hbw, hsz⟩ := hI
    rw [hF] at hrow
    obtain ⟨AQ, cQ, rfl⟩ := row_slice hrow
    have HV := Lib.hid hv
    have HROW := Lib.hid hrow
    have HBW := Lib.hid hbw
    clear hF hv hrow
    obtain ⟨kk, hkk⟩ : ∃ kk, u.k = kk := ⟨_, rfl⟩
    have f0 : W.cell? ⟨Bx, 0, none⟩ = some (.pointer (some ⟨b, o, none⟩)) := blk_cell bX 0 _ rfl
    have f1 : W.cell? ⟨Bx, 1, none⟩ = some (.int .i64 x) := blk_cell bX 1 _ rfl
    have f2 : W.cell? ⟨Bx, 2, none⟩ = some (.int .i64 y) := blk_cell bX 2 _ rfl
    have k0 : W.cell? ⟨b, o, none⟩ = some (.int .i64 kk) := by rw [← hkk]; exact (hbw.cell (p := ⟨b, o, none⟩) hb).trans (hat 0 (by omega))
    obtain ⟨uw, huw⟩ : ∃ uw, u.w = uw := ⟨_, rfl⟩
    obtain ⟨uh, huh⟩ : ∃ uh, u.h = uh := ⟨_, rfl⟩
    obtain ⟨ud, hud⟩ : ∃ ud, u.d = ud := ⟨_, rfl⟩
    have k3 : W.cell? ⟨b, o + 3, none⟩ = some (.int .i64 uw) := by rw [← huw]; exact (hbw.cell (p := ⟨b, o + 3, none⟩) hb).trans (hat 3 (by omega))
    have k4 : W.cell? ⟨b, o + 4, none⟩ = some (.int .i64 uh) := by rw [← huh]; exact (hbw.cell (p := ⟨b, o + 4, none⟩) hb).trans (hat 4 (by omega))
    have k5 : W.cell? ⟨b, o + 5, none⟩ = some (.int .i64 ud) := by rw [← hud]; exact (hbw.cell (p := ⟨b, o + 5, none⟩) hb).trans (hat 5 (by omega))
    obtain ⟨unm, hnm⟩ : ∃ unm, u.nm = unm := ⟨_, rfl⟩
    obtain ⟨uz, huz⟩ : ∃ uz, u.sz = uz := ⟨_, rfl⟩
    have k1 : W.cell? ⟨b, o + 1, none⟩ = some (.string unm) := by rw [← hnm]; exact (hbw.cell (p := ⟨b, o + 1, none⟩) hb).trans (hat 1 (by omega))
    have k2 : W.cell? ⟨b, o + 2, none⟩ = some (.int .i64 uz) := by rw [← huz]; exact (hbw.cell (p := ⟨b, o + 2, none⟩) hb).trans (hat 2 (by omega))
    have hBl : Bx < W.heap.size := (Array.getElem?_eq_some_iff.1 bX).1
    have hbl : b < W.heap.size := by have h1 : b < s + 1 := hb; omega
    by_cases hk1 : kk = 1
    · subst hk1
      have HPL : Hid (ownPl u x y = [⟨1, uz, unm, x, y, uw, uh, ud⟩]) := by show _ = _; rw [own_1 hkk, huz, hnm, huw, huh, hud]
      have HF7 := Lib.hid (And.intro f0 (And.intro k1 k2))
      clear k1 k2 hnm huz hkk
      gi_wp2
      obtain ⟨V1, hV1⟩ : ∃ V1, W.drew = V1 := ⟨_, rfl⟩
      obtain ⟨V2, hV2⟩ : ∃ V2, V1.alloc (.cells (Pl.row ⟨0, 0, ⟨#[]⟩, 0, 0, 0, 0, 0⟩) 42) = V2 := ⟨_, rfl⟩
      obtain ⟨V3, hV3⟩ : ∃ V3, V1.alloc (.cells (Pl.row ⟨1, 0, ⟨#[]⟩, x, y, uw, uh, ud⟩) 42) = V3 := ⟨_, rfl⟩
      have HBV1 : Hid (Below W.heap.size W V1) := by rw [← hV1]; exact (Below.refl _ _).drew
      have HBV2 : Hid (Below W.heap.size W V2) := by rw [← hV2]; exact HBV1.out.alloc HBV1.out.size _
      have HBV3 : Hid (Below W.heap.size W V3) := by rw [← hV3]; exact HBV1.out.alloc HBV1.out.size _
      have HSZ1 : Hid (V1.heap.size = W.heap.size) := by rw [← hV1]; rfl
      have HD3 : Hid (V3.heap[V1.heap.size]? = some (.cells (Pl.row ⟨1, 0, ⟨#[]⟩, x, y, uw, uh, ud⟩) 42 (0, 0))) := by rw [← hV3]; exact blk_new _ _
      have hcell : ∀ w' : World, Below W.heap.size W w' → (w'.cell? ⟨Bx, 0, none⟩ = some (.pointer (some ⟨b, o, none⟩)) ∧ w'.cell? ⟨Bx, 1, none⟩ = some (.int .i64 x) ∧ w'.cell? ⟨Bx, 2, none⟩ = some (.int .i64 y) ∧ w'.cell? ⟨b, o, none⟩ = some (.int .i64 1) ∧ w'.cell? ⟨b, o + 3, none⟩ = some (.int .i64 uw) ∧ w'.cell? ⟨b, o + 4, none⟩ = some (.int .i64 uh) ∧ w'.cell? ⟨b, o + 5, none⟩ = some (.int .i64 ud)) := fun w' hw =>
        ⟨(hw.cell (p := ⟨Bx, 0, none⟩) hBl).trans f0, (hw.cell (p := ⟨Bx, 1, none⟩) hBl).trans f1, (hw.cell (p := ⟨Bx, 2, none⟩) hBl).trans f2, (hw.cell (p := ⟨b, o, none⟩) hbl).trans k0, (hw.cell (p := ⟨b, o + 3, none⟩) hbl).trans k3, (hw.cell (p := ⟨b, o + 4, none⟩) hbl).trans k4, (hw.cell (p := ⟨b, o + 5, none⟩) hbl).trans k5⟩
      have HSF : Hid (∀ (c d : Bool) (w' : World), w' = wsel c d V1 V2 V3 → (w'.cell? ⟨Bx, 0, none⟩ = some (.pointer (some ⟨b, o, none⟩)) ∧ w'.cell? ⟨Bx, 1, none⟩ = some (.int .i64 x) ∧ w'.cell? ⟨Bx, 2, none⟩ = some (.int .i64 y) ∧ w'.cell? ⟨b, o, none⟩ = some (.int .i64 1) ∧ w'.cell? ⟨b, o + 3, none⟩ = some (.int .i64 uw) ∧ w'.cell? ⟨b, o + 4, none⟩ = some (.int .i64 uh) ∧ w'.cell? ⟨b, o + 5, none⟩ = some (.int .i64 ud))) := by
        rintro c d w' rfl
        cases d
        · cases c
          · exact hcell _ HBV1.out
          · exact hcell _ HBV2.out
        · exact hcell _ HBV3.out
      have HV2 := Lib.hid hV2
      have HV3 := Lib.hid hV3
      clear hcell f0 f1 f2 k0 k3 k4 k5 hV2 hV3
      have HK3 : Hid (KeepsOthers W V3) := by rw [← HV3.out, ← hV1]; exact (KeepsOthers.drew _).trans (KeepsOthers.alloc _ _)
      obtain ⟨fr, hfr⟩ : ∃ fr : (Nat → Bool) → Act, ∀ z, fr z = { tmps := #[.agg (bxA t A c A' c'), .pointer (some ⟨s, 0, none⟩), .slice none 0 0, .pointer (some ⟨s + 1, 0, none⟩), .pointer (some ⟨Bx, 0, none⟩), Slot z 25 (.pointer (some ⟨V1.heap.size, 0, none⟩)) undef, .func (.func 37) #[] #[.pointer (some ⟨s + 1 + 1, 0, none⟩)], .agg #[.pointer (some ⟨b, o, none⟩), .int .i64 x, .int .i64 y], .pointer (some ⟨Bx, 0, none⟩), .pointer (some ⟨b, o, none⟩), .pointer (some ⟨b, o, none⟩), .pointer (some ⟨b, o, none⟩), .int .i64 1, .bool false, .bool false, undef, undef, undef, undef, undef, undef, .bool false, Slot z 0 (.pointer (some ⟨Bx, 0, none⟩)) undef, Slot z 1 (.pointer (some ⟨b, o, none⟩)) undef, Slot z 2 (.pointer (some ⟨b, o, none⟩)) undef, Slot z 3 (.pointer (some ⟨b, o, none⟩)) undef, Slot z 4 (.int .i64 1) undef, Slot z 5 (.pointer (some ⟨Bx, 1, none⟩)) undef, Slot z 6 (.int .i64 x) undef, Slot z 7 (.pointer (some ⟨Bx, 2, none⟩)) undef, Slot z 8 (.int .i64 y) undef, Slot z 9 (.pointer (some ⟨Bx, 0, none⟩)) undef, Slot z 10 (.pointer (some ⟨b, o, none⟩)) undef, Slot z 11 (.pointer (some ⟨b, o, none⟩)) undef, Slot z 12 (.pointer (some ⟨b, o + 3, none⟩)) undef, Slot z 13 (.int .i64 uw) undef, Slot z 14 (.pointer (some ⟨Bx, 0, none⟩)) undef, Slot z 15 (.pointer (some ⟨b, o, none⟩)) undef, Slot z 16 (.pointer (some ⟨b, o, none⟩)) undef, Slot z 17 (.pointer (some ⟨b, o + 4, none⟩)) undef, Slot z 18 (.int .i64 uh) undef, Slot z 19 (.pointer (some ⟨Bx, 0, none⟩)) undef, Slot z 20 (.pointer (some ⟨b, o, none⟩)) undef, Slot z 21 (.pointer (some ⟨b, o, none⟩)) undef, Slot z 22 (.pointer (some ⟨b, o + 5, none⟩)) undef, Slot z 23 (.int .i64 ud) undef, Slot z 24 (.agg #[.int .i64 1, .int .i64 0, .string ⟨#[]⟩, .int .i64 x, .int .i64 y, .int .i64 uw, .int .i64 uh, .int .i64 ud]) undef, undef, undef, undef, undef, undef, undef, undef, undef, undef, undef, undef, undef, undef, undef, undef, undef, undef, undef, undef, undef], defers := [] } := ⟨_, fun _ => rfl⟩
      have HFR := Lib.hid hfr
      refine wpIn_region_inv (fun z a' w' => a' = fr z ∧ w' = wsel (z 25) (z 26) V1 V2 V3) (by kernel_rfl) (by kernel_rfl) ⟨?start, hV1⟩ ?steps ?fin
      case start => rw [hfr]; rfl
      all_goals clear hfr hV1
      case steps =>
        refine ⟨?o0, ?o1, ?o2, ?o3, ?o4, ?o5, ?o6, ?o7, ?o8, ?o9, ?o10, ?o11, ?o12, ?o13, ?o14, ?o15, ?o16, ?o17, ?o18, ?o19, ?o20, ?o21, ?o22, ?o23, ?o24, ?o25, ?o26, trivial⟩
        case o0 =>
          rintro z a2 w2 hb2 hcl hpr ⟨ha, hw⟩
          rw [HFR.out] at ha
          subst ha
          refine opAt_plain rfl fun K hK => ?_
          obtain ⟨f0, f1, f2, k0, k3, k4, k5⟩ := HSF.out _ _ _ hw
          have HW := Lib.hid hw
          clear hcl hpr hw
          gi_step
          exact hK _ _ ⟨by rw [HFR.out]; rfl, HW.out⟩
        case o1 =>
          rintro z a2 w2 hb2 hcl hpr ⟨ha, hw⟩
          have p0 : z 0 = true := hpr ⟨0, .data⟩ (by simp) rfl
          rw [HFR.out] at ha
          rw [Slot_true _ _ p0] at ha
          subst ha
          refine opAt_plain rfl fun K hK => ?_
          obtain ⟨f0, f1, f2, k0, k3, k4, k5⟩ := HSF.out _ _ _ hw
          have HW := Lib.hid hw
          clear hcl hpr hw
          gi_step
          exact hK _ _ ⟨by rw [HFR.out, Slot_true (b := upd z 1) (i := 0) _ _ p0]; rfl, HW.out⟩
        case o2 =>
          rintro z a2 w2 hb2 hcl hpr ⟨ha, hw⟩
          have p1 : z 1 = true := hpr ⟨1, .data⟩ (by simp) rfl
          rw [HFR.out] at ha
          rw [Slot_true _ _ p1] at ha
          subst ha
          refine opAt_plain rfl fun K hK => ?_
          obtain ⟨f0, f1, f2, k0, k3, k4, k5⟩ := HSF.out _ _ _ hw
          have HW := Lib.hid hw
          clear hcl hpr hw
          gi_step
          exact hK _ _ ⟨by rw [HFR.out, Slot_true (b := upd z 2) (i := 1) _ _ p1]; rfl, HW.out⟩
        case o3 =>
          rintro z a2 w2 hb2 hcl hpr ⟨ha, hw⟩
          have p2 : z 2 = true := hpr ⟨2, .data⟩ (by simp) rfl
          rw [HFR.out] at ha
          rw [Slot_true _ _ p2] at ha
          subst ha
          refine opAt_plain rfl fun K hK => ?_
          obtain ⟨f0, f1, f2, k0, k3, k4, k5⟩ := HSF.out _ _ _ hw
          have HW := Lib.hid hw
          clear hcl hpr hw
          gi_step
          exact hK _ _ ⟨by rw [HFR.out, Slot_true (b := upd z 3) (i := 2) _ _ p2]; rfl, HW.out⟩
        case o4 =>
          rintro z a2 w2 hb2 hcl hpr ⟨ha, hw⟩
          have p3 : z 3 = true := hpr ⟨3, .data⟩ (by simp) rfl
          rw [HFR.out] at ha
          rw [Slot_true _ _ p3] at ha
          subst ha
          refine opAt_plain rfl fun K hK => ?_
          obtain ⟨f0, f1, f2, k0, k3, k4, k5⟩ := HSF.out _ _ _ hw
          have HW := Lib.hid hw
          clear hcl hpr hw
          gi_step
          exact hK _ _ ⟨by rw [HFR.out, Slot_true (b := upd z 4) (i := 3) _ _ p3]; rfl, HW.out⟩
        case o5 =>
          rintro z a2 w2 hb2 hcl hpr ⟨ha, hw⟩
          rw [HFR.out] at ha
          subst ha
          refine opAt_plain rfl fun K hK => ?_
          obtain ⟨f0, f1, f2, k0, k3, k4, k5⟩ := HSF.out _ _ _ hw
          have HW := Lib.hid hw
          clear hcl hpr hw
          gi_step
          exact hK _ _ ⟨by rw [HFR.out]; rfl, HW.out⟩
        case o6 =>
          rintro z a2 w2 hb2 hcl hpr ⟨ha, hw⟩
          have p5 : z 5 = true := hpr ⟨5, .data⟩ (by simp) rfl
          rw [HFR.out] at ha
          rw [Slot_true _ _ p5] at ha
          subst ha
          refine opAt_plain rfl fun K hK => ?_
          obtain ⟨f0, f1, f2, k0, k3, k4, k5⟩ := HSF.out _ _ _ hw
          have HW := Lib.hid hw
          clear hcl hpr hw
          gi_step
          exact hK _ _ ⟨by rw [HFR.out, Slot_true (b := upd z 6) (i := 5) _ _ p5]; rfl, HW.out⟩
        case o7 =>
          rintro z a2 w2 hb2 hcl hpr ⟨ha, hw⟩
          rw [HFR.out] at ha
          subst ha
          refine opAt_plain rfl fun K hK => ?_
          obtain ⟨f0, f1, f2, k0, k3, k4, k5⟩ := HSF.out _ _ _ hw
          have HW := Lib.hid hw
          clear hcl hpr hw
          gi_step
          exact hK _ _ ⟨by rw [HFR.out]; rfl, HW.out⟩
        case o8 =>
          rintro z a2 w2 hb2 hcl hpr ⟨ha, hw⟩
          have p7 : z 7 = true := hpr ⟨7, .data⟩ (by simp) rfl
          rw [HFR.out] at ha
          rw [Slot_true _ _ p7] at ha
          subst ha
          refine opAt_plain rfl fun K hK => ?_
          obtain ⟨f0, f1, f2, k0, k3, k4, k5⟩ := HSF.out _ _ _ hw
          have HW := Lib.hid hw
          clear hcl hpr hw
          gi_step
          exact hK _ _ ⟨by rw [HFR.out, Slot_true (b := upd z 8) (i := 7) _ _ p7]; rfl, HW.out⟩
        case o9 =>
          rintro z a2 w2 hb2 hcl hpr ⟨ha, hw⟩
          rw [HFR.out] at ha
          subst ha
          refine opAt_plain rfl fun K hK => ?_
          obtain ⟨f0, f1, f2, k0, k3, k4, k5⟩ := HSF.out _ _ _ hw
          have HW := Lib.hid hw
          clear hcl hpr hw
          gi_step
          exact hK _ _ ⟨by rw [HFR.out]; rfl, HW.out⟩
        case o10 =>
          rintro z a2 w2 hb2 hcl hpr ⟨ha, hw⟩
          have p9 : z 9 = true := hpr ⟨9, .data⟩ (by simp) rfl
          rw [HFR.out] at ha
          rw [Slot_true _ _ p9] at ha
          subst ha
          refine opAt_plain rfl fun K hK => ?_
          obtain ⟨f0, f1, f2, k0, k3, k4, k5⟩ := HSF.out _ _ _ hw
          have HW := Lib.hid hw
          clear hcl hpr hw
          gi_step
          exact hK _ _ ⟨by rw [HFR.out, Slot_true (b := upd z 10) (i := 9) _ _ p9]; rfl, HW.out⟩
        case o11 =>
          rintro z a2 w2 hb2 hcl hpr ⟨ha, hw⟩
          have p10 : z 10 = true := hpr ⟨10, .data⟩ (by simp) rfl
          rw [HFR.out] at ha
          rw [Slot_true _ _ p10] at ha
          subst ha
          refine opAt_plain rfl fun K hK => ?_
          obtain ⟨f0, f1, f2, k0, k3, k4, k5⟩ := HSF.out _ _ _ hw
          have HW := Lib.hid hw
          clear hcl hpr hw
          gi_step
          exact hK _ _ ⟨by rw [HFR.out, Slot_true (b := upd z 11) (i := 10) _ _ p10]; rfl, HW.out⟩
        case o12 =>
          rintro z a2 w2 hb2 hcl hpr ⟨ha, hw⟩
          have p11 : z 11 = true := hpr ⟨11, .data⟩ (by simp) rfl
          rw [HFR.out] at ha
          rw [Slot_true _ _ p11] at ha
          subst ha
          refine opAt_plain rfl fun K hK => ?_
          obtain ⟨f0, f1, f2, k0, k3, k4, k5⟩ := HSF.out _ _ _ hw
          have HW := Lib.hid hw
          clear hcl hpr hw
          gi_step
          exact hK _ _ ⟨by rw [HFR.out, Slot_true (b := upd z 12) (i := 11) _ _ p11]; rfl, HW.out⟩
        case o13 =>
          rintro z a2 w2 hb2 hcl hpr ⟨ha, hw⟩
          have p12 : z 12 = true := hpr ⟨12, .data⟩ (by simp) rfl
          rw [HFR.out] at ha
          rw [Slot_true _ _ p12] at ha
          subst ha
          refine opAt_plain rfl fun K hK => ?_
          obtain ⟨f0, f1, f2, k0, k3, k4, k5⟩ := HSF.out _ _ _ hw
          have HW := Lib.hid hw
          clear hcl hpr hw
          gi_step
          exact hK _ _ ⟨by rw [HFR.out, Slot_true (b := upd z 13) (i := 12) _ _ p12]; rfl, HW.out⟩
        case o14 =>
          rintro z a2 w2 hb2 hcl hpr ⟨ha, hw⟩
          rw [HFR.out] at ha
          subst ha
          refine opAt_plain rfl fun K hK => ?_
          obtain ⟨f0, f1, f2, k0, k3, k4, k5⟩ := HSF.out _ _ _ hw
          have HW := Lib.hid hw
          clear hcl hpr hw
          gi_step
          exact hK _ _ ⟨by rw [HFR.out]; rfl, HW.out⟩
        case o15 =>
          rintro z a2 w2 hb2 hcl hpr ⟨ha, hw⟩
          have p14 : z 14 = true := hpr ⟨14, .data⟩ (by simp) rfl
          rw [HFR.out] at ha
          rw [Slot_true _ _ p14] at ha
          subst ha
          refine opAt_plain rfl fun K hK => ?_
          obtain ⟨f0, f1, f2, k0, k3, k4, k5⟩ := HSF.out _ _ _ hw
          have HW := Lib.hid hw
          clear hcl hpr hw
          gi_step
          exact hK _ _ ⟨by rw [HFR.out, Slot_true (b := upd z 15) (i := 14) _ _ p14]; rfl, HW.out⟩
        case o16 =>
          rintro z a2 w2 hb2 hcl hpr ⟨ha, hw⟩
          have p15 : z 15 = true := hpr ⟨15, .data⟩ (by simp) rfl
          rw [HFR.out] at ha
          rw [Slot_true _ _ p15] at ha
          subst ha
          refine opAt_plain rfl fun K hK => ?_
          obtain ⟨f0, f1, f2, k0, k3, k4, k5⟩ := HSF.out _ _ _ hw
          have HW := Lib.hid hw
          clear hcl hpr hw
          gi_step
          exact hK _ _ ⟨by rw [HFR.out, Slot_true (b := upd z 16) (i := 15) _ _ p15]; rfl, HW.out⟩
        case o17 =>
          rintro z a2 w2 hb2 hcl hpr ⟨ha, hw⟩
          have p16 : z 16 = true := hpr ⟨16, .data⟩ (by simp) rfl
          rw [HFR.out] at ha
          rw [Slot_true _ _ p16] at ha
          subst ha
          refine opAt_plain rfl fun K hK => ?_
          obtain ⟨f0, f1, f2, k0, k3, k4, k5⟩ := HSF.out _ _ _ hw
          have HW := Lib.hid hw
          clear hcl hpr hw
          gi_step
          exact hK _ _ ⟨by rw [HFR.out, Slot_true (b := upd z 17) (i := 16) _ _ p16]; rfl, HW.out⟩
        case o18 =>
          rintro z a2 w2 hb2 hcl hpr ⟨ha, hw⟩
          have p17 : z 17 = true := hpr ⟨17, .data⟩ (by simp) rfl
          rw [HFR.out] at ha
          rw [Slot_true _ _ p17] at ha
          subst ha
          refine opAt_plain rfl fun K hK => ?_
          obtain ⟨f0, f1, f2, k0, k3, k4, k5⟩ := HSF.out _ _ _ hw
          have HW := Lib.hid hw
          clear hcl hpr hw
          gi_step
          exact hK _ _ ⟨by rw [HFR.out, Slot_true (b := upd z 18) (i := 17) _ _ p17]; rfl, HW.out⟩
        case o19 =>
          rintro z a2 w2 hb2 hcl hpr ⟨ha, hw⟩
          rw [HFR.out] at ha
          subst ha
          refine opAt_plain rfl fun K hK => ?_
          obtain ⟨f0, f1, f2, k0, k3, k4, k5⟩ := HSF.out _ _ _ hw
          have HW := Lib.hid hw
          clear hcl hpr hw
          gi_step
          exact hK _ _ ⟨by rw [HFR.out]; rfl, HW.out⟩
        case o20 =>
          rintro z a2 w2 hb2 hcl hpr ⟨ha, hw⟩
          have p19 : z 19 = true := hpr ⟨19, .data⟩ (by simp) rfl
          rw [HFR.out] at ha
          rw [Slot_true _ _ p19] at ha
          subst ha
          refine opAt_plain rfl fun K hK => ?_
          obtain ⟨f0, f1, f2, k0, k3, k4, k5⟩ := HSF.out _ _ _ hw
          have HW := Lib.hid hw
          clear hcl hpr hw
          gi_step
          exact hK _ _ ⟨by rw [HFR.out, Slot_true (b := upd z 20) (i := 19) _ _ p19]; rfl, HW.out⟩
        case o21 =>
          rintro z a2 w2 hb2 hcl hpr ⟨ha, hw⟩
          have p20 : z 20 = true := hpr ⟨20, .data⟩ (by simp) rfl
          rw [HFR.out] at ha
          rw [Slot_true _ _ p20] at ha
          subst ha
          refine opAt_plain rfl fun K hK => ?_
          obtain ⟨f0, f1, f2, k0, k3, k4, k5⟩ := HSF.out _ _ _ hw
          have HW := Lib.hid hw
          clear hcl hpr hw
          gi_step
          exact hK _ _ ⟨by rw [HFR.out, Slot_true (b := upd z 21) (i := 20) _ _ p20]; rfl, HW.out⟩
        case o22 =>
          rintro z a2 w2 hb2 hcl hpr ⟨ha, hw⟩
          have p21 : z 21 = true := hpr ⟨21, .data⟩ (by simp) rfl
          rw [HFR.out] at ha
          rw [Slot_true _ _ p21] at ha
          subst ha
          refine opAt_plain rfl fun K hK => ?_
          obtain ⟨f0, f1, f2, k0, k3, k4, k5⟩ := HSF.out _ _ _ hw
          have HW := Lib.hid hw
          clear hcl hpr hw
          gi_step
          exact hK _ _ ⟨by rw [HFR.out, Slot_true (b := upd z 22) (i := 21) _ _ p21]; rfl, HW.out⟩
        case o23 =>
          rintro z a2 w2 hb2 hcl hpr ⟨ha, hw⟩
          have p22 : z 22 = true := hpr ⟨22, .data⟩ (by simp) rfl
          rw [HFR.out] at ha
          rw [Slot_true _ _ p22] at ha
          subst ha
          refine opAt_plain rfl fun K hK => ?_
          obtain ⟨f0, f1, f2, k0, k3, k4, k5⟩ := HSF.out _ _ _ hw
          have HW := Lib.hid hw
          clear hcl hpr hw
          gi_step
          exact hK _ _ ⟨by rw [HFR.out, Slot_true (b := upd z 23) (i := 22) _ _ p22]; rfl, HW.out⟩
        case o24 =>
          rintro z a2 w2 hb2 hcl hpr ⟨ha, hw⟩
          have p4 : z 4 = true := hpr ⟨4, .data⟩ (by simp) rfl
          have p6 : z 6 = true := hpr ⟨6, .data⟩ (by simp) rfl
          have p8 : z 8 = true := hpr ⟨8, .data⟩ (by simp) rfl
          have p13 : z 13 = true := hpr ⟨13, .data⟩ (by simp) rfl
          have p18 : z 18 = true := hpr ⟨18, .data⟩ (by simp) rfl
          have p23 : z 23 = true := hpr ⟨23, .data⟩ (by simp) rfl
          rw [HFR.out] at ha
          rw [Slot_true _ _ p4, Slot_true _ _ p6, Slot_true _ _ p8, Slot_true _ _ p13, Slot_true _ _ p18, Slot_true _ _ p23] at ha
          subst ha
          refine opAt_plain rfl fun K hK => ?_
          obtain ⟨f0, f1, f2, k0, k3, k4, k5⟩ := HSF.out _ _ _ hw
          have HW := Lib.hid hw
          clear hcl hpr hw
          gi_step
          exact hK _ _ ⟨by rw [HFR.out, Slot_true (b := upd z 24) (i := 4) _ _ p4, Slot_true (b := upd z 24) (i := 6) _ _ p6, Slot_true (b := upd z 24) (i := 8) _ _ p8, Slot_true (b := upd z 24) (i := 13) _ _ p13, Slot_true (b := upd z 24) (i := 18) _ _ p18, Slot_true (b := upd z 24) (i := 23) _ _ p23]; rfl, HW.out⟩
        case o25 =>
          rintro z a2 w2 hb2 hcl hpr ⟨ha, hw⟩
          rw [HFR.out] at ha
          subst ha
          refine opAt_plain rfl fun K hK => ?_
          have h26 : z 26 = false := by cases h : z 26 with | false => rfl | true => exact absurd (hcl 26 _ rfl h ⟨25, .data⟩ (by simp) rfl) (by rw [hb2]; decide)
          rw [hb2, h26] at hw
          change w2 = V1 at hw
          subst hw
          clear hcl hpr
          gi_step
          exact hK _ _ ⟨by rw [HFR.out]; rfl, by show _ = wsel true (z 26) _ _ _; rw [h26]; exact HV2.out⟩
        case o26 =>
          rintro z a2 w2 hb2 hcl hpr ⟨ha, hw⟩
          have p25 : z 25 = true := hpr ⟨25, .data⟩ (by simp) rfl
          have p24 : z 24 = true := hpr ⟨24, .data⟩ (by simp) rfl
          rw [HFR.out] at ha
          rw [Slot_true _ _ p25, Slot_true _ _ p24] at ha
          subst ha
          refine opAt_plain rfl fun K hK => ?_
          rw [p25, hb2] at hw
          change w2 = V2 at hw
          rw [← HV2.out] at hw
          subst hw
          clear hcl hpr
          gi_step
          exact hK _ _ ⟨by rw [HFR.out, Slot_true (b := upd z 26) (i := 25) _ _ p25, Slot_true (b := upd z 26) (i := 24) _ _ p24]; rfl, by show _ = wsel (z 25) true _ _ _; exact HV3.out⟩
      case fin =>
        rintro z a2 w2 hall ⟨ha, hw⟩
        rw [HFR.out] at ha
        dsimp only at ha
        rw [Slot_true _ _ (hall 0 (by decide)), Slot_true _ _ (hall 1 (by decide)), Slot_true _ _ (hall 2 (by decide)), Slot_true _ _ (hall 3 (by decide)), Slot_true _ _ (hall 4 (by decide)), Slot_true _ _ (hall 5 (by decide)), Slot_true _ _ (hall 6 (by decide)), Slot_true _ _ (hall 7 (by decide)), Slot_true _ _ (hall 8 (by decide)), Slot_true _ _ (hall 9 (by decide)), Slot_true _ _ (hall 10 (by decide)), Slot_true _ _ (hall 11 (by decide)), Slot_true _ _ (hall 12 (by decide)), Slot_true _ _ (hall 13 (by decide)), Slot_true _ _ (hall 14 (by decide)), Slot_true _ _ (hall 15 (by decide)), Slot_true _ _ (hall 16 (by decide)), Slot_true _ _ (hall 17 (by decide)), Slot_true _ _ (hall 18 (by decide)), Slot_true _ _ (hall 19 (by decide)), Slot_true _ _ (hall 20 (by decide)), Slot_true _ _ (hall 21 (by decide)), Slot_true _ _ (hall 22 (by decide)), Slot_true _ _ (hall 23 (by decide)), Slot_true _ _ (hall 24 (by decide)), Slot_true _ _ (hall 25 (by decide))] at ha
        rw [hall 25 (by decide), hall 26 (by decide)] at hw
        change w2 = V3 at hw
        subst ha
        rw [hw]
        clear hall HFR HSF hw
        have c0 := blk_cell HD3.out 0 _ rfl
        gi_wp2
        obtain ⟨p, hp⟩ : ∃ p, V1.heap.size = p := ⟨_, rfl⟩
        have HD3' := HD3.out
        rw [hp] at HD3' ⊢
        have hpW : W.heap.size ≤ p := by have := HSZ1.out; omega
        obtain ⟨U1, hU1⟩ : ∃ U1, V3.drew = U1 := ⟨_, rfl⟩
        obtain ⟨U2, hU2⟩ : ∃ U2, U1.setCell ⟨p, 2, none⟩ (.string unm) = U2 := ⟨_, rfl⟩
        obtain ⟨U3, hU3⟩ : ∃ U3, U2.setCell ⟨p, 1, none⟩ (.int .i64 uz) = U3 := ⟨_, rfl⟩
        have HBU1 : Hid (Below W.heap.size W U1) := by rw [← hU1]; exact HBV3.out.drew
        have HBU2 : Hid (Below W.heap.size W U2) := by rw [← hU2]; exact HBU1.out.setCell (p := ⟨p, 2, none⟩) hpW _
        have HBU3 : Hid (Below W.heap.size W U3) := by rw [← hU3]; exact HBU2.out.setCell (p := ⟨p, 1, none⟩) hpW _
        have DU1 : Hid (U1.heap[p]? = some (.cells (Pl.row ⟨1, 0, ⟨#[]⟩, x, y, uw, uh, ud⟩) 42 (0, 0))) := by rw [← hU1]; exact HD3'
        have DU2 : Hid (U2.heap[p]? = some (.cells (Pl.row ⟨1, 0, unm, x, y, uw, uh, ud⟩) 42 (0, 0))) := by rw [← hU2]; exact blk_set DU1.out 2 (.string unm)
        have DU3 : Hid (U3.heap[p]? = some (.cells (Pl.row ⟨1, uz, unm, x, y, uw, uh, ud⟩) 42 (0, 0))) := by rw [← hU3]; exact blk_set DU2.out 1 (.int .i64 uz)
        have HKU : Hid (KeepsOthers W U3) := by rw [← hU3, ← hU2, ← hU1]; exact (((HK3.out.trans (KeepsOthers.drew _)).trans (KeepsOthers.setCell _ _ _)).trans (KeepsOthers.setCell _ _ _))
        have hcell : ∀ w' : World, Below W.heap.size W w' → (w'.cell? ⟨Bx, 0, none⟩ = some (.pointer (some ⟨b, o, none⟩)) ∧ w'.cell? ⟨b, o + 1, none⟩ = some (.string unm) ∧ w'.cell? ⟨b, o + 2, none⟩ = some (.int .i64 uz)) := fun w' hw =>
          ⟨(hw.cell (p := ⟨Bx, 0, none⟩) hBl).trans HF7.out.1, (hw.cell (p := ⟨b, o + 1, none⟩) hbl).trans HF7.out.2.1, (hw.cell (p := ⟨b, o + 2, none⟩) hbl).trans HF7.out.2.2⟩
        have HSF : Hid (∀ (c d : Bool) (w' : World), w' = wsel c d U1 U2 U3 → (w'.cell? ⟨Bx, 0, none⟩ = some (.pointer (some ⟨b, o, none⟩)) ∧ w'.cell? ⟨b, o + 1, none⟩ = some (.string unm) ∧ w'.cell? ⟨b, o + 2, none⟩ = some (.int .i64 uz))) := by
          rintro c d w' rfl
          cases d
          · cases c
            · exact hcell _ HBU1.out
            · exact hcell _ HBU2.out
          · exact hcell _ HBU3.out
        have HU2 := Lib.hid hU2
        have HU3 := Lib.hid hU3
        have HP := Lib.hid hp
        clear hcell hU2 hU3 hp
        obtain ⟨fr, hfr⟩ : ∃ fr : (Nat → Bool) → Act, ∀ z, fr z = { tmps := #[.agg (bxA t A c A' c'), .pointer (some ⟨s, 0, none⟩), .slice none 0 0, .pointer (some ⟨s + 1, 0, none⟩), .pointer (some ⟨Bx, 0, none⟩), .pointer (some ⟨p, 0, none⟩), .func (.func 37) #[] #[.pointer (some ⟨s + 1 + 1, 0, none⟩)], .agg #[.pointer (some ⟨b, o, none⟩), .int .i64 x, .int .i64 y], .pointer (some ⟨Bx, 0, none⟩), .pointer (some ⟨b, o, none⟩), .pointer (some ⟨b, o, none⟩), .pointer (some ⟨b, o, none⟩), .int .i64 1, .bool false, .bool false, undef, undef, undef, undef, undef, undef, .bool false, .pointer (some ⟨Bx, 0, none⟩), .pointer (some ⟨b, o, none⟩), .pointer (some ⟨b, o, none⟩), .pointer (some ⟨b, o, none⟩), .int .i64 1, .pointer (some ⟨Bx, 1, none⟩), .int .i64 x, .pointer (some ⟨Bx, 2, none⟩), .int .i64 y, .pointer (some ⟨Bx, 0, none⟩), .pointer (some ⟨b, o, none⟩), .pointer (some ⟨b, o, none⟩), .pointer (some ⟨b, o + 3, none⟩), .int .i64 uw, .pointer (some ⟨Bx, 0, none⟩), .pointer (some ⟨b, o, none⟩), .pointer (some ⟨b, o, none⟩), .pointer (some ⟨b, o + 4, none⟩), .int .i64 uh, .pointer (some ⟨Bx, 0, none⟩), .pointer (some ⟨b, o, none⟩), .pointer (some ⟨b, o, none⟩), .pointer (some ⟨b, o + 5, none⟩), .int .i64 ud, .agg #[.int .i64 1, .int .i64 0, .string ⟨#[]⟩, .int .i64 x, .int .i64 y, .int .i64 uw, .int .i64 uh, .int .i64 ud], .pointer (some ⟨p, 0, none⟩), .int .i64 1, .bool true, Slot z 0 (.pointer (some ⟨Bx, 0, none⟩)) undef, Slot z 1 (.pointer (some ⟨b, o, none⟩)) undef, Slot z 2 (.pointer (some ⟨b, o, none⟩)) undef, Slot z 3 (.pointer (some ⟨b, o + 1, none⟩)) undef, Slot z 4 (.string unm) undef, Slot z 5 (.pointer (some ⟨Bx, 0, none⟩)) undef, Slot z 6 (.pointer (some ⟨b, o, none⟩)) undef, Slot z 7 (.pointer (some ⟨b, o, none⟩)) undef, Slot z 8 (.pointer (some ⟨b, o + 2, none⟩)) undef, Slot z 9 (.int .i64 uz) undef, Slot z 10 (.pointer (some ⟨p, 2, none⟩)) undef, Slot z 12 (.pointer (some ⟨p, 1, none⟩)) undef, undef, undef, undef, undef, undef], defers := [] } := ⟨_, fun _ => rfl⟩
        have HFR := Lib.hid hfr
        refine wpIn_region_inv (fun z a' w' => a' = fr z ∧ w' = wsel (z 11) (z 13) U1 U2 U3) (by kernel_rfl) (by kernel_rfl) ⟨?start, hU1⟩ ?steps ?fin
        case start => rw [hfr]; rfl
        all_goals clear hfr hU1
        case steps =>
          refine ⟨?o0, ?o1, ?o2, ?o3, ?o4, ?o5, ?o6, ?o7, ?o8, ?o9, ?o10, ?o11, ?o12, ?o13, trivial⟩
          case o0 =>
            rintro z a2 w2 hb2 hcl hpr ⟨ha, hw⟩
            rw [HFR.out] at ha
            subst ha
            refine opAt_plain rfl fun K hK => ?_
            obtain ⟨f0, k1, k2⟩ := HSF.out _ _ _ hw
            have HW := Lib.hid hw
            clear hcl hpr hw
            gi_step
            exact hK _ _ ⟨by rw [HFR.out]; rfl, HW.out⟩
          case o1 =>
            rintro z a2 w2 hb2 hcl hpr ⟨ha, hw⟩
            have p0 : z 0 = true := hpr ⟨0, .data⟩ (by simp) rfl
            rw [HFR.out] at ha
            rw [Slot_true _ _ p0] at ha
            subst ha
            refine opAt_plain rfl fun K hK => ?_
            obtain ⟨f0, k1, k2⟩ := HSF.out _ _ _ hw
            have HW := Lib.hid hw
            clear hcl hpr hw
            gi_step
            exact hK _ _ ⟨by rw [HFR.out, Slot_true (b := upd z 1) (i := 0) _ _ p0]; rfl, HW.out⟩
          case o2 =>
            rintro z a2 w2 hb2 hcl hpr ⟨ha, hw⟩
            have p1 : z 1 = true := hpr ⟨1, .data⟩ (by simp) rfl
            rw [HFR.out] at ha
            rw [Slot_true _ _ p1] at ha
            subst ha
            refine opAt_plain rfl fun K hK => ?_
            obtain ⟨f0, k1, k2⟩ := HSF.out _ _ _ hw
            have HW := Lib.hid hw
            clear hcl hpr hw
            gi_step
            exact hK _ _ ⟨by rw [HFR.out, Slot_true (b := upd z 2) (i := 1) _ _ p1]; rfl, HW.out⟩
          case o3 =>
            rintro z a2 w2 hb2 hcl hpr ⟨ha, hw⟩
            have p2 : z 2 = true := hpr ⟨2, .data⟩ (by simp) rfl
            rw [HFR.out] at ha
            rw [Slot_true _ _ p2] at ha
            subst ha
            refine opAt_plain rfl fun K hK => ?_
            obtain ⟨f0, k1, k2⟩ := HSF.out _ _ _ hw
            have HW := Lib.hid hw
            clear hcl hpr hw
            gi_step
            exact hK _ _ ⟨by rw [HFR.out, Slot_true (b := upd z 3) (i := 2) _ _ p2]; rfl, HW.out⟩
          case o4 =>
            rintro z a2 w2 hb2 hcl hpr ⟨ha, hw⟩
            have p3 : z 3 = true := hpr ⟨3, .data⟩ (by simp) rfl
            rw [HFR.out] at ha
            rw [Slot_true _ _ p3] at ha
            subst ha
            refine opAt_plain rfl fun K hK => ?_
            obtain ⟨f0, k1, k2⟩ := HSF.out _ _ _ hw
            have HW := Lib.hid hw
            clear hcl hpr hw
            gi_step
            exact hK _ _ ⟨by rw [HFR.out, Slot_true (b := upd z 4) (i := 3) _ _ p3]; rfl, HW.out⟩
          case o5 =>
            rintro z a2 w2 hb2 hcl hpr ⟨ha, hw⟩
            rw [HFR.out] at ha
            subst ha
            refine opAt_plain rfl fun K hK => ?_
            obtain ⟨f0, k1, k2⟩ := HSF.out _ _ _ hw
            have HW := Lib.hid hw
            clear hcl hpr hw
            gi_step
            exact hK _ _ ⟨by rw [HFR.out]; rfl, HW.out⟩
          case o6 =>
            rintro z a2 w2 hb2 hcl hpr ⟨ha, hw⟩
            have p5 : z 5 = true := hpr ⟨5, .data⟩ (by simp) rfl
            rw [HFR.out] at ha
            rw [Slot_true _ _ p5] at ha
            subst ha
            refine opAt_plain rfl fun K hK => ?_
            obtain ⟨f0, k1, k2⟩ := HSF.out _ _ _ hw
            have HW := Lib.hid hw
            clear hcl hpr hw
            gi_step
            exact hK _ _ ⟨by rw [HFR.out, Slot_true (b := upd z 6) (i := 5) _ _ p5]; rfl, HW.out⟩
          case o7 =>
            rintro z a2 w2 hb2 hcl hpr ⟨ha, hw⟩
            have p6 : z 6 = true := hpr ⟨6, .data⟩ (by simp) rfl
            rw [HFR.out] at ha
            rw [Slot_true _ _ p6] at ha
            subst ha
            refine opAt_plain rfl fun K hK => ?_
            obtain ⟨f0, k1, k2⟩ := HSF.out _ _ _ hw
            have HW := Lib.hid hw
            clear hcl hpr hw
            gi_step
            exact hK _ _ ⟨by rw [HFR.out, Slot_true (b := upd z 7) (i := 6) _ _ p6]; rfl, HW.out⟩
          case o8 =>
            rintro z a2 w2 hb2 hcl hpr ⟨ha, hw⟩
            have p7 : z 7 = true := hpr ⟨7, .data⟩ (by simp) rfl
            rw [HFR.out] at ha
            rw [Slot_true _ _ p7] at ha
            subst ha
            refine opAt_plain rfl fun K hK => ?_
            obtain ⟨f0, k1, k2⟩ := HSF.out _ _ _ hw
            have HW := Lib.hid hw
            clear hcl hpr hw
            gi_step
            exact hK _ _ ⟨by rw [HFR.out, Slot_true (b := upd z 8) (i := 7) _ _ p7]; rfl, HW.out⟩
          case o9 =>
            rintro z a2 w2 hb2 hcl hpr ⟨ha, hw⟩
            have p8 : z 8 = true := hpr ⟨8, .data⟩ (by simp) rfl
            rw [HFR.out] at ha
            rw [Slot_true _ _ p8] at ha
            subst ha
            refine opAt_plain rfl fun K hK => ?_
            obtain ⟨f0, k1, k2⟩ := HSF.out _ _ _ hw
            have HW := Lib.hid hw
            clear hcl hpr hw
            gi_step
            exact hK _ _ ⟨by rw [HFR.out, Slot_true (b := upd z 9) (i := 8) _ _ p8]; rfl, HW.out⟩
          case o10 =>
            rintro z a2 w2 hb2 hcl hpr ⟨ha, hw⟩
            rw [HFR.out] at ha
            subst ha
            refine opAt_plain rfl fun K hK => ?_
            obtain ⟨f0, k1, k2⟩ := HSF.out _ _ _ hw
            have HW := Lib.hid hw
            clear hcl hpr hw
            gi_step
            exact hK _ _ ⟨by rw [HFR.out]; rfl, HW.out⟩
          case o11 =>
            rintro z a2 w2 hb2 hcl hpr ⟨ha, hw⟩
            have p10 : z 10 = true := hpr ⟨10, .data⟩ (by simp) rfl
            have p4 : z 4 = true := hpr ⟨4, .data⟩ (by simp) rfl
            rw [HFR.out] at ha
            rw [Slot_true _ _ p10, Slot_true _ _ p4] at ha
            subst ha
            refine opAt_plain rfl fun K hK => ?_
            have h13 : z 13 = false := by cases h : z 13 with | false => rfl | true => exact absurd (hcl 13 _ rfl h ⟨11, .chain⟩ (by simp) rfl) (by rw [hb2]; decide)
            rw [hb2, h13] at hw
            change w2 = U1 at hw
            subst hw
            clear hcl hpr
            have y2 := blk_cell DU1.out 2 _ rfl
            have z2 := blk_free DU1.out 2
            gi_step
            exact hK _ _ ⟨by rw [HFR.out, Slot_true (b := upd z 11) (i := 10) _ _ p10, Slot_true (b := upd z 11) (i := 4) _ _ p4]; rfl, by show _ = wsel true (z 13) _ _ _; rw [h13]; exact HU2.out⟩
          case o12 =>
            rintro z a2 w2 hb2 hcl hpr ⟨ha, hw⟩
            rw [HFR.out] at ha
            subst ha
            refine opAt_plain rfl fun K hK => ?_
            obtain ⟨f0, k1, k2⟩ := HSF.out _ _ _ hw
            have HW := Lib.hid hw
            clear hcl hpr hw
            gi_step
            exact hK _ _ ⟨by rw [HFR.out]; rfl, HW.out⟩
          case o13 =>
            rintro z a2 w2 hb2 hcl hpr ⟨ha, hw⟩
            have p12 : z 12 = true := hpr ⟨12, .data⟩ (by simp) rfl
            have p9 : z 9 = true := hpr ⟨9, .data⟩ (by simp) rfl
            rw [HFR.out] at ha
            rw [Slot_true _ _ p12, Slot_true _ _ p9] at ha
            subst ha
            refine opAt_plain rfl fun K hK => ?_
            have p11 : z 11 = true := hpr ⟨11, .chain⟩ (by simp) rfl
            rw [p11, hb2] at hw
            change w2 = U2 at hw
            subst hw
            clear hcl hpr
            have y1 := blk_cell DU2.out 1 _ rfl
            have z1 := blk_free DU2.out 1
            gi_step
            exact hK _ _ ⟨by rw [HFR.out, Slot_true (b := upd z 13) (i := 12) _ _ p12, Slot_true (b := upd z 13) (i := 9) _ _ p9]; rfl, by show _ = wsel (z 11) true _ _ _; exact HU3.out⟩
        case fin =>
          rintro z a2 w2 hall ⟨ha, hw⟩
          rw [HFR.out] at ha
          dsimp only at ha
          rw [Slot_true _ _ (hall 0 (by decide)), Slot_true _ _ (hall 1 (by decide)), Slot_true _ _ (hall 2 (by decide)), Slot_true _ _ (hall 3 (by decide)), Slot_true _ _ (hall 4 (by decide)), Slot_true _ _ (hall 5 (by decide)), Slot_true _ _ (hall 6 (by decide)), Slot_true _ _ (hall 7 (by decide)), Slot_true _ _ (hall 8 (by decide)), Slot_true _ _ (hall 9 (by decide)), Slot_true _ _ (hall 10 (by decide)), Slot_true _ _ (hall 12 (by decide))] at ha
          rw [hall 11 (by decide), hall 13 (by decide)] at hw
          change w2 = U3 at hw
          subst ha
          rw [hw]
          clear hall HFR HSF hw
          have HVT : Hid (Boxed U3 (s + 1) 39 (.slice AQ F.length cQ)) := (HBU3.out.block _ HV.out.lt).trans HV.out
          have HRT : Hid (U3.ownsRow (s + 1) 42 8 (.slice AQ F.length cQ) F.length (plC F)) := own_below HROW.out HBU3.out
          have hszT : s + 3 ≤ U3.heap.size := by have := HBU3.out.size; omega
          have e0 := HVT.out.cell
          have c0 := blk_cell DU3.out 0 _ rfl
          have c1 := blk_cell DU3.out 1 _ rfl
          have c2 := blk_cell DU3.out 2 _ rfl
          have c3 := blk_cell DU3.out 3 _ rfl
          have c4 := blk_cell DU3.out 4 _ rfl
          have c5 := blk_cell DU3.out 5 _ rfl
          have c6 := blk_cell DU3.out 6 _ rfl
          have c7 := blk_cell DU3.out 7 _ rfl
          gi_wp2_with (gi_at_builtin; refine wpListIn_append_own _ rfl _ _ 39 rfl (s + 1) 42 i2 _ 8 72 Try.underlying39 hi2 hz0 hz1 hz2 rfl (by decide) _ F.length (plC F) rfl (own_below HRT.out (one_below _ _)) ⟨U3.heap.size, 0, none⟩ 1 1 (Pl.row ⟨1, uz, unm, x, y, uw, uh, ud⟩).toList rfl rfl (cells_new _ _ _) (Pl.row_one _) (by unfold maxLen; omega) (by omega) (by rw [World.size_alloc]; omega) ?_; intro v' w1 hown' hgrow _; obtain ⟨g', cap', rfl⟩ := ownsRow_succ hown'; obtain ⟨hv1, hv2, hr2, hk2, hb2⟩ := HVT.out.appended (by decide) HRT.out (by omega) (Nat.le_refl _) hown' hgrow; have HKV := Lib.hid (KeepV.appended HVT.out HRT.out hgrow hb2); have HR2 := Lib.hid hr2; have HV2 := Lib.hid hv2; have HK2 := Lib.hid hk2; have HB2 := Lib.hid hb2; have hc1 := hv1.cell; have hf1 := hv1.frozen; clear hv1 hv2 hr2 hk2 hb2 hown' hgrow)
          refine ⟨(HKU.out.trans HK2.out).from _, (KeepV.of HBU3.out (by omega)).trans HKV.out, ⟨_, HV2.out, ?_, trivial⟩, (HBW.out.trans (HBU3.out.mono (by omega))).trans HB2.out, Nat.le_trans hszT HB2.out.size⟩
          rw [HFN.out, HPL.out, List.length_append, plC_snoc]
          exact HR2.out
    by_cases hk2 : kk = 2
    · subst hk2
      have HPL : Hid (ownPl u x y = [⟨2, 0, ⟨#[]⟩, x, y, uw, uh, ud⟩]) := by show _ = _; rw [own_2 hkk, huw, huh, hud]
      clear k1 k2 hnm huz hkk
      gi_wp2
      obtain ⟨V1, hV1⟩ : ∃ V1, W.drew = V1 := ⟨_, rfl⟩
      obtain ⟨V2, hV2⟩ : ∃ V2, V1.alloc (.cells (Pl.row ⟨0, 0, ⟨#[]⟩, 0, 0, 0, 0, 0⟩) 42) = V2 := ⟨_, rfl⟩
      obtain ⟨V3, hV3⟩ : ∃ V3, V1.alloc (.cells (Pl.row ⟨2, 0, ⟨#[]⟩, x, y, uw, uh, ud⟩) 42) = V3 := ⟨_, rfl⟩
      have HBV1 : Hid (Below W.heap.size W V1) := by rw [← hV1]; exact (Below.refl _ _).drew
      have HBV2 : Hid (Below W.heap.size W V2) := by rw [← hV2]; exact HBV1.out.alloc HBV1.out.size _
      have HBV3 : Hid (Below W.heap.size W V3) := by rw [← hV3]; exact HBV1.out.alloc HBV1.out.size _
      have HSZ1 : Hid (V1.heap.size = W.heap.size) := by rw [← hV1]; rfl
      have HD3 : Hid (V3.heap[V1.heap.size]? = some (.cells (Pl.row ⟨2, 0, ⟨#[]⟩, x, y, uw, uh, ud⟩) 42 (0, 0))) := by rw [← hV3]; exact blk_new _ _
      have hcell : ∀ w' : World, Below W.heap.size W w' → (w'.cell? ⟨Bx, 0, none⟩ = some (.pointer (some ⟨b, o, none⟩)) ∧ w'.cell? ⟨Bx, 1, none⟩ = some (.int .i64 x) ∧ w'.cell? ⟨Bx, 2, none⟩ = some (.int .i64 y) ∧ w'.cell? ⟨b, o, none⟩ = some (.int .i64 2) ∧ w'.cell? ⟨b, o + 3, none⟩ = some (.int .i64 uw) ∧ w'.cell? ⟨b, o + 4, none⟩ = some (.int .i64 uh) ∧ w'.cell? ⟨b, o + 5, none⟩ = some (.int .i64 ud)) := fun w' hw =>
        ⟨(hw.cell (p := ⟨Bx, 0, none⟩) hBl).trans f0, (hw.cell (p := ⟨Bx, 1, none⟩) hBl).trans f1, (hw.cell (p := ⟨Bx, 2, none⟩) hBl).trans f2, (hw.cell (p := ⟨b, o, none⟩) hbl).trans k0, (hw.cell (p := ⟨b, o + 3, none⟩) hbl).trans k3, (hw.cell (p := ⟨b, o + 4, none⟩) hbl).trans k4, (hw.cell (p := ⟨b, o + 5, none⟩) hbl).trans k5⟩
      have HSF : Hid (∀ (c d : Bool) (w' : World), w' = wsel c d V1 V2 V3 → (w'.cell? ⟨Bx, 0, none⟩ = some (.pointer (some ⟨b, o, none⟩)) ∧ w'.cell? ⟨Bx, 1, none⟩ = some (.int .i64 x) ∧ w'.cell? ⟨Bx, 2, none⟩ = some (.int .i64 y) ∧ w'.cell? ⟨b, o, none⟩ = some (.int .i64 2) ∧ w'.cell? ⟨b, o + 3, none⟩ = some (.int .i64 uw) ∧ w'.cell? ⟨b, o + 4, none⟩ = some (.int .i64 uh) ∧ w'.cell? ⟨b, o + 5, none⟩ = some (.int .i64 ud))) := by
        rintro c d w' rfl
        cases d
        · cases c
          · exact hcell _ HBV1.out
          · exact hcell _ HBV2.out
        · exact hcell _ HBV3.out
      have HV2 := Lib.hid hV2
      have HV3 := Lib.hid hV3
      clear hcell f0 f1 f2 k0 k3 k4 k5 hV2 hV3
      have HK3 : Hid (KeepsOthers W V3) := by rw [← HV3.out, ← hV1]; exact (KeepsOthers.drew _).trans (KeepsOthers.alloc _ _)
      obtain ⟨fr, hfr⟩ : ∃ fr : (Nat → Bool) → Act, ∀ z, fr z = { tmps := #[.agg (bxA t A c A' c'), .pointer (some ⟨s, 0, none⟩), .slice none 0 0, .pointer (some ⟨s + 1, 0, none⟩), .pointer (some ⟨Bx, 0, none⟩), Slot z 25 (.pointer (some ⟨V1.heap.size, 0, none⟩)) undef, .func (.func 37) #[] #[.pointer (some ⟨s + 1 + 1, 0, none⟩)], .agg #[.pointer (some ⟨b, o, none⟩), .int .i64 x, .int .i64 y], .pointer (some ⟨Bx, 0, none⟩), .pointer (some ⟨b, o, none⟩), .pointer (some ⟨b, o, none⟩), .pointer (some ⟨b, o, none⟩), .int .i64 2, .bool true, .bool true, .pointer (some ⟨Bx, 0, none⟩), .pointer (some ⟨b, o, none⟩), .pointer (some ⟨b, o, none⟩), .pointer (some ⟨b, o, none⟩), .int .i64 2, .bool false, .bool false, Slot z 0 (.pointer (some ⟨Bx, 0, none⟩)) undef, Slot z 1 (.pointer (some ⟨b, o, none⟩)) undef, Slot z 2 (.pointer (some ⟨b, o, none⟩)) undef, Slot z 3 (.pointer (some ⟨b, o, none⟩)) undef, Slot z 4 (.int .i64 2) undef, Slot z 5 (.pointer (some ⟨Bx, 1, none⟩)) undef, Slot z 6 (.int .i64 x) undef, Slot z 7 (.pointer (some ⟨Bx, 2, none⟩)) undef, Slot z 8 (.int .i64 y) undef, Slot z 9 (.pointer (some ⟨Bx, 0, none⟩)) undef, Slot z 10 (.pointer (some ⟨b, o, none⟩)) undef, Slot z 11 (.pointer (some ⟨b, o, none⟩)) undef, Slot z 12 (.pointer (some ⟨b, o + 3, none⟩)) undef, Slot z 13 (.int .i64 uw) undef, Slot z 14 (.pointer (some ⟨Bx, 0, none⟩)) undef, Slot z 15 (.pointer (some ⟨b, o, none⟩)) undef, Slot z 16 (.pointer (some ⟨b, o, none⟩)) undef, Slot z 17 (.pointer (some ⟨b, o + 4, none⟩)) undef, Slot z 18 (.int .i64 uh) undef, Slot z 19 (.pointer (some ⟨Bx, 0, none⟩)) undef, Slot z 20 (.pointer (some ⟨b, o, none⟩)) undef, Slot z 21 (.pointer (some ⟨b, o, none⟩)) undef, Slot z 22 (.pointer (some ⟨b, o + 5, none⟩)) undef, Slot z 23 (.int .i64 ud) undef, Slot z 24 (.agg #[.int .i64 2, .int .i64 0, .string ⟨#[]⟩, .int .i64 x, .int .i64 y, .int .i64 uw, .int .i64 uh, .int .i64 ud]) undef, undef, undef, undef, undef, undef, undef, undef, undef, undef, undef, undef, undef, undef, undef, undef, undef, undef, undef, undef, undef], defers := [] } := ⟨_, fun _ => rfl⟩
      have HFR := Lib.hid hfr
      refine wpIn_region_inv (fun z a' w' => a' = fr z ∧ w' = wsel (z 25) (z 26) V1 V2 V3) (by kernel_rfl) (by kernel_rfl) ⟨?start, hV1⟩ ?steps ?fin
      case start => rw [hfr]; rfl
      all_goals clear hfr hV1
      case steps =>
        refine ⟨?o0, ?o1, ?o2, ?o3, ?o4, ?o5, ?o6, ?o7, ?o8, ?o9, ?o10, ?o11, ?o12, ?o13, ?o14, ?o15, ?o16, ?o17, ?o18, ?o19, ?o20, ?o21, ?o22, ?o23, ?o24, ?o25, ?o26, trivial⟩
        case o0 =>
          rintro z a2 w2 hb2 hcl hpr ⟨ha, hw⟩
          rw [HFR.out] at ha
          subst ha
          refine opAt_plain rfl fun K hK => ?_
          obtain ⟨f0, f1, f2, k0, k3, k4, k5⟩ := HSF.out _ _ _ hw
          have HW := Lib.hid hw
          clear hcl hpr hw
          gi_step
          exact hK _ _ ⟨by rw [HFR.out]; rfl, HW.out⟩
        case o1 =>
          rintro z a2 w2 hb2 hcl hpr ⟨ha, hw⟩
          have p0 : z 0 = true := hpr ⟨0, .data⟩ (by simp) rfl
          rw [HFR.out] at ha
          rw [Slot_true _ _ p0] at ha
          subst ha
          refine opAt_plain rfl fun K hK => ?_
          obtain ⟨f0, f1, f2, k0, k3, k4, k5⟩ := HSF.out _ _ _ hw
          have HW := Lib.hid hw
          clear hcl hpr hw
          gi_step
          exact hK _ _ ⟨by rw [HFR.out, Slot_true (b := upd z 1) (i := 0) _ _ p0]; rfl, HW.out⟩
        case o2 =>
          rintro z a2 w2 hb2 hcl hpr ⟨ha, hw⟩
          have p1 : z 1 = true := hpr ⟨1, .data⟩ (by simp) rfl
          rw [HFR.out] at ha
          rw [Slot_true _ _ p1] at ha
          subst ha
          refine opAt_plain rfl fun K hK => ?_
          obtain ⟨f0, f1, f2, k0, k3, k4, k5⟩ := HSF.out _ _ _ hw
          have HW := Lib.hid hw
          clear hcl hpr hw
          gi_step
          exact hK _ _ ⟨by rw [HFR.out, Slot_true (b := upd z 2) (i := 1) _ _ p1]; rfl, HW.out⟩
        case o3 =>
          rintro z a2 w2 hb2 hcl hpr ⟨ha, hw⟩
          have p2 : z 2 = true := hpr ⟨2, .data⟩ (by simp) rfl
          rw [HFR.out] at ha
          rw [Slot_true _ _ p2] at ha
          subst ha
          refine opAt_plain rfl fun K hK => ?_
          obtain ⟨f0, f1, f2, k0, k3, k4, k5⟩ := HSF.out _ _ _ hw
          have HW := Lib.hid hw
          clear hcl hpr hw
          gi_step
          exact hK _ _ ⟨by rw [HFR.out, Slot_true (b := upd z 3) (i := 2) _ _ p2]; rfl, HW.out⟩
        case o4 =>
          rintro z a2 w2 hb2 hcl hpr ⟨ha, hw⟩
          have p3 : z 3 = true := hpr ⟨3, .data⟩ (by simp) rfl
          rw [HFR.out] at ha
          rw [Slot_true _ _ p3] at ha
          subst ha
          refine opAt_plain rfl fun K hK => ?_
          obtain ⟨f0, f1, f2, k0, k3, k4, k5⟩ := HSF.out _ _ _ hw
          have HW := Lib.hid hw
          clear hcl hpr hw
          gi_step
          exact hK _ _ ⟨by rw [HFR.out, Slot_true (b := upd z 4) (i := 3) _ _ p3]; rfl, HW.out⟩
        case o5 =>
          rintro z a2 w2 hb2 hcl hpr ⟨ha, hw⟩
          rw [HFR.out] at ha
          subst ha
          refine opAt_plain rfl fun K hK => ?_
          obtain ⟨f0, f1, f2, k0, k3, k4, k5⟩ := HSF.out _ _ _ hw
          have HW := Lib.hid hw
          clear hcl hpr hw
          gi_step
          exact hK _ _ ⟨by rw [HFR.out]; rfl, HW.out⟩
        case o6 =>
          rintro z a2 w2 hb2 hcl hpr ⟨ha, hw⟩
          have p5 : z 5 = true := hpr ⟨5, .data⟩ (by simp) rfl
          rw [HFR.out] at ha
          rw [Slot_true _ _ p5] at ha
          subst ha
          refine opAt_plain rfl fun K hK => ?_
          obtain ⟨f0, f1, f2, k0, k3, k4, k5⟩ := HSF.out _ _ _ hw
          have HW := Lib.hid hw
          clear hcl hpr hw
          gi_step
          exact hK _ _ ⟨by rw [HFR.out, Slot_true (b := upd z 6) (i := 5) _ _ p5]; rfl, HW.out⟩
        case o7 =>
          rintro z a2 w2 hb2 hcl hpr ⟨ha, hw⟩
          rw [HFR.out] at ha
          subst ha
          refine opAt_plain rfl fun K hK => ?_
          obtain ⟨f0, f1, f2, k0, k3, k4, k5⟩ := HSF.out _ _ _ hw
          have HW := Lib.hid hw
          clear hcl hpr hw
          gi_step
          exact hK _ _ ⟨by rw [HFR.out]; rfl, HW.out⟩
        case o8 =>
          rintro z a2 w2 hb2 hcl hpr ⟨ha, hw⟩
          have p7 : z 7 = true := hpr ⟨7, .data⟩ (by simp) rfl
          rw [HFR.out] at ha
          rw [Slot_true _ _ p7] at ha
          subst ha
          refine opAt_plain rfl fun K hK => ?_
          obtain ⟨f0, f1, f2, k0, k3, k4, k5⟩ := HSF.out _ _ _ hw
          have HW := Lib.hid hw
          clear hcl hpr hw
          gi_step
          exact hK _ _ ⟨by rw [HFR.out, Slot_true (b := upd z 8) (i := 7) _ _ p7]; rfl, HW.out⟩
        case o9 =>
          rintro z a2 w2 hb2 hcl hpr ⟨ha, hw⟩
          rw [HFR.out] at ha
          subst ha
          refine opAt_plain rfl fun K hK => ?_
          obtain ⟨f0, f1, f2, k0, k3, k4, k5⟩ := HSF.out _ _ _ hw
          have HW := Lib.hid hw
          clear hcl hpr hw
          gi_step
          exact hK _ _ ⟨by rw [HFR.out]; rfl, HW.out⟩
        case o10 =>
          rintro z a2 w2 hb2 hcl hpr ⟨ha, hw⟩
          have p9 : z 9 = true := hpr ⟨9, .data⟩ (by simp) rfl
          rw [HFR.out] at ha
          rw [Slot_true _ _ p9] at ha
          subst ha
          refine opAt_plain rfl fun K hK => ?_
          obtain ⟨f0, f1, f2, k0, k3, k4, k5⟩ := HSF.out _ _ _ hw
          have HW := Lib.hid hw
          clear hcl hpr hw
          gi_step
          exact hK _ _ ⟨by rw [HFR.out, Slot_true (b := upd z 10) (i := 9) _ _ p9]; rfl, HW.out⟩
        case o11 =>
          rintro z a2 w2 hb2 hcl hpr ⟨ha, hw⟩
          have p10 : z 10 = true := hpr ⟨10, .data⟩ (by simp) rfl
          rw [HFR.out] at ha
          rw [Slot_true _ _ p10] at ha
          subst ha
          refine opAt_plain rfl fun K hK => ?_
          obtain ⟨f0, f1, f2, k0, k3, k4, k5⟩ := HSF.out _ _ _ hw
          have HW := Lib.hid hw
          clear hcl hpr hw
          gi_step
          exact hK _ _ ⟨by rw [HFR.out, Slot_true (b := upd z 11) (i := 10) _ _ p10]; rfl, HW.out⟩
        case o12 =>
          rintro z a2 w2 hb2 hcl hpr ⟨ha, hw⟩
          have p11 : z 11 = true := hpr ⟨11, .data⟩ (by simp) rfl
          rw [HFR.out] at ha
          rw [Slot_true _ _ p11] at ha
          subst ha
          refine opAt_plain rfl fun K hK => ?_
          obtain ⟨f0, f1, f2, k0, k3, k4, k5⟩ := HSF.out _ _ _ hw
          have HW := Lib.hid hw
          clear hcl hpr hw
          gi_step
          exact hK _ _ ⟨by rw [HFR.out, Slot_true (b := upd z 12) (i := 11) _ _ p11]; rfl, HW.out⟩
        case o13 =>
          rintro z a2 w2 hb2 hcl hpr ⟨ha, hw⟩
          have p12 : z 12 = true := hpr ⟨12, .data⟩ (by simp) rfl
          rw [HFR.out] at ha
          rw [Slot_true _ _ p12] at ha
          subst ha
          refine opAt_plain rfl fun K hK => ?_
          obtain ⟨f0, f1, f2, k0, k3, k4, k5⟩ := HSF.out _ _ _ hw
          have HW := Lib.hid hw
          clear hcl hpr hw
          gi_step
          exact hK _ _ ⟨by rw [HFR.out, Slot_true (b := upd z 13) (i := 12) _ _ p12]; rfl, HW.out⟩
        case o14 =>
          rintro z a2 w2 hb2 hcl hpr ⟨ha, hw⟩
          rw [HFR.out] at ha
          subst ha
          refine opAt_plain rfl fun K hK => ?_
          obtain ⟨f0, f1, f2, k0, k3, k4, k5⟩ := HSF.out _ _ _ hw
          have HW := Lib.hid hw
          clear hcl hpr hw
          gi_step
          exact hK _ _ ⟨by rw [HFR.out]; rfl, HW.out⟩
        case o15 =>
          rintro z a2 w2 hb2 hcl hpr ⟨ha, hw⟩
          have p14 : z 14 = true := hpr ⟨14, .data⟩ (by simp) rfl
          rw [HFR.out] at ha
          rw [Slot_true _ _ p14] at ha
          subst ha
          refine opAt_plain rfl fun K hK => ?_
          obtain ⟨f0, f1, f2, k0, k3, k4, k5⟩ := HSF.out _ _ _ hw
          have HW := Lib.hid hw
          clear hcl hpr hw
          gi_step
          exact hK _ _ ⟨by rw [HFR.out, Slot_true (b := upd z 15) (i := 14) _ _ p14]; rfl, HW.out⟩
        case o16 =>
          rintro z a2 w2 hb2 hcl hpr ⟨ha, hw⟩
          have p15 : z 15 = true := hpr ⟨15, .data⟩ (by simp) rfl
          rw [HFR.out] at ha
          rw [Slot_true _ _ p15] at ha
          subst ha
          refine opAt_plain rfl fun K hK => ?_
          obtain ⟨f0, f1, f2, k0, k3, k4, k5⟩ := HSF.out _ _ _ hw
          have HW := Lib.hid hw
          clear hcl hpr hw
          gi_step
          exact hK _ _ ⟨by rw [HFR.out, Slot_true (b := upd z 16) (i := 15) _ _ p15]; rfl, HW.out⟩
        case o17 =>
          rintro z a2 w2 hb2 hcl hpr ⟨ha, hw⟩
          have p16 : z 16 = true := hpr ⟨16, .data⟩ (by simp) rfl
          rw [HFR.out] at ha
          rw [Slot_true _ _ p16] at ha
          subst ha
          refine opAt_plain rfl fun K hK => ?_
          obtain ⟨f0, f1, f2, k0, k3, k4, k5⟩ := HSF.out _ _ _ hw
          have HW := Lib.hid hw
          clear hcl hpr hw
          gi_step
          exact hK _ _ ⟨by rw [HFR.out, Slot_true (b := upd z 17) (i := 16) _ _ p16]; rfl, HW.out⟩
        case o18 =>
          rintro z a2 w2 hb2 hcl hpr ⟨ha, hw⟩
          have p17 : z 17 = true := hpr ⟨17, .data⟩ (by simp) rfl
          rw [HFR.out] at ha
          rw [Slot_true _ _ p17] at ha
          subst ha
          refine opAt_plain rfl fun K hK => ?_
          obtain ⟨f0, f1, f2, k0, k3, k4, k5⟩ := HSF.out _ _ _ hw
          have HW := Lib.hid hw
          clear hcl hpr hw
          gi_step
          exact hK _ _ ⟨by rw [HFR.out, Slot_true (b := upd z 18) (i := 17) _ _ p17]; rfl, HW.out⟩
        case o19 =>
          rintro z a2 w2 hb2 hcl hpr ⟨ha, hw⟩
          rw [HFR.out] at ha
          subst ha
          refine opAt_plain rfl fun K hK => ?_
          obtain ⟨f0, f1, f2, k0, k3, k4, k5⟩ := HSF.out _ _ _ hw
          have HW := Lib.hid hw
          clear hcl hpr hw
          gi_step
          exact hK _ _ ⟨by rw [HFR.out]; rfl, HW.out⟩
        case o20 =>
          rintro z a2 w2 hb2 hcl hpr ⟨ha, hw⟩
          have p19 : z 19 = true := hpr ⟨19, .data⟩ (by simp) rfl
          rw [HFR.out] at ha
          rw [Slot_true _ _ p19] at ha
          subst ha
          refine opAt_plain rfl fun K hK => ?_
          obtain ⟨f0, f1, f2, k0, k3, k4, k5⟩ := HSF.out _ _ _ hw
          have HW := Lib.hid hw
          clear hcl hpr hw
          gi_step
          exact hK _ _ ⟨by rw [HFR.out, Slot_true (b := upd z 20) (i := 19) _ _ p19]; rfl, HW.out⟩
        case o21 =>
          rintro z a2 w2 hb2 hcl hpr ⟨ha, hw⟩
          have p20 : z 20 = true := hpr ⟨20, .data⟩ (by simp) rfl
          rw [HFR.out] at ha
          rw [Slot_true _ _ p20] at ha
          subst ha
          refine opAt_plain rfl fun K hK => ?_
          obtain ⟨f0, f1, f2, k0, k3, k4, k5⟩ := HSF.out _ _ _ hw
          have HW := Lib.hid hw
          clear hcl hpr hw
          gi_step
          exact hK _ _ ⟨by rw [HFR.out, Slot_true (b := upd z 21) (i := 20) _ _ p20]; rfl, HW.out⟩
        case o22 =>
          rintro z a2 w2 hb2 hcl hpr ⟨ha, hw⟩
          have p21 : z 21 = true := hpr ⟨21, .data⟩ (by simp) rfl
          rw [HFR.out] at ha
          rw [Slot_true _ _ p21] at ha
          subst ha
          refine opAt_plain rfl fun K hK => ?_
          obtain ⟨f0, f1, f2, k0, k3, k4, k5⟩ := HSF.out _ _ _ hw
          have HW := Lib.hid hw
          clear hcl hpr hw
          gi_step
          exact hK _ _ ⟨by rw [HFR.out, Slot_true (b := upd z 22) (i := 21) _ _ p21]; rfl, HW.out⟩
        case o23 =>
          rintro z a2 w2 hb2 hcl hpr ⟨ha, hw⟩
          have p22 : z 22 = true := hpr ⟨22, .data⟩ (by simp) rfl
          rw [HFR.out] at ha
          rw [Slot_true _ _ p22] at ha
          subst ha
          refine opAt_plain rfl fun K hK => ?_
          obtain ⟨f0, f1, f2, k0, k3, k4, k5⟩ := HSF.out _ _ _ hw
          have HW := Lib.hid hw
          clear hcl hpr hw
          gi_step
          exact hK _ _ ⟨by rw [HFR.out, Slot_true (b := upd z 23) (i := 22) _ _ p22]; rfl, HW.out⟩
        case o24 =>
          rintro z a2 w2 hb2 hcl hpr ⟨ha, hw⟩
          have p4 : z 4 = true := hpr ⟨4, .data⟩ (by simp) rfl
          have p6 : z 6 = true := hpr ⟨6, .data⟩ (by simp) rfl
          have p8 : z 8 = true := hpr ⟨8, .data⟩ (by simp) rfl
          have p13 : z 13 = true := hpr ⟨13, .data⟩ (by simp) rfl
          have p18 : z 18 = true := hpr ⟨18, .data⟩ (by simp) rfl
          have p23 : z 23 = true := hpr ⟨23, .data⟩ (by simp) rfl
          rw [HFR.out] at ha
          rw [Slot_true _ _ p4, Slot_true _ _ p6, Slot_true _ _ p8, Slot_true _ _ p13, Slot_true _ _ p18, Slot_true _ _ p23] at ha
          subst ha
          refine opAt_plain rfl fun K hK => ?_
          obtain ⟨f0, f1, f2, k0, k3, k4, k5⟩ := HSF.out _ _ _ hw
          have HW := Lib.hid hw
          clear hcl hpr hw
          gi_step
          exact hK _ _ ⟨by rw [HFR.out, Slot_true (b := upd z 24) (i := 4) _ _ p4, Slot_true (b := upd z 24) (i := 6) _ _ p6, Slot_true (b := upd z 24) (i := 8) _ _ p8, Slot_true (b := upd z 24) (i := 13) _ _ p13, Slot_true (b := upd z 24) (i := 18) _ _ p18, Slot_true (b := upd z 24) (i := 23) _ _ p23]; rfl, HW.out⟩
        case o25 =>
          rintro z a2 w2 hb2 hcl hpr ⟨ha, hw⟩
          rw [HFR.out] at ha
          subst ha
          refine opAt_plain rfl fun K hK => ?_
          have h26 : z 26 = false := by cases h : z 26 with | false => rfl | true => exact absurd (hcl 26 _ rfl h ⟨25, .data⟩ (by simp) rfl) (by rw [hb2]; decide)
          rw [hb2, h26] at hw
          change w2 = V1 at hw
          subst hw
          clear hcl hpr
          gi_step
          exact hK _ _ ⟨by rw [HFR.out]; rfl, by show _ = wsel true (z 26) _ _ _; rw [h26]; exact HV2.out⟩
        case o26 =>
          rintro z a2 w2 hb2 hcl hpr ⟨ha, hw⟩
          have p25 : z 25 = true := hpr ⟨25, .data⟩ (by simp) rfl
          have p24 : z 24 = true := hpr ⟨24, .data⟩ (by simp) rfl
          rw [HFR.out] at ha
          rw [Slot_true _ _ p25, Slot_true _ _ p24] at ha
          subst ha
          refine opAt_plain rfl fun K hK => ?_
          rw [p25, hb2] at hw
          change w2 = V2 at hw
          rw [← HV2.out] at hw
          subst hw
          clear hcl hpr
          gi_step
          exact hK _ _ ⟨by rw [HFR.out, Slot_true (b := upd z 26) (i := 25) _ _ p25, Slot_true (b := upd z 26) (i := 24) _ _ p24]; rfl, by show _ = wsel (z 25) true _ _ _; exact HV3.out⟩
      case fin =>
        rintro z a2 w2 hall ⟨ha, hw⟩
        rw [HFR.out] at ha
        dsimp only at ha
        rw [Slot_true _ _ (hall 0 (by decide)), Slot_true _ _ (hall 1 (by decide)), Slot_true _ _ (hall 2 (by decide)), Slot_true _ _ (hall 3 (by decide)), Slot_true _ _ (hall 4 (by decide)), Slot_true _ _ (hall 5 (by decide)), Slot_true _ _ (hall 6 (by decide)), Slot_true _ _ (hall 7 (by decide)), Slot_true _ _ (hall 8 (by decide)), Slot_true _ _ (hall 9 (by decide)), Slot_true _ _ (hall 10 (by decide)), Slot_true _ _ (hall 11 (by decide)), Slot_true _ _ (hall 12 (by decide)), Slot_true _ _ (hall 13 (by decide)), Slot_true _ _ (hall 14 (by decide)), Slot_true _ _ (hall 15 (by decide)), Slot_true _ _ (hall 16 (by decide)), Slot_true _ _ (hall 17 (by decide)), Slot_true _ _ (hall 18 (by decide)), Slot_true _ _ (hall 19 (by decide)), Slot_true _ _ (hall 20 (by decide)), Slot_true _ _ (hall 21 (by decide)), Slot_true _ _ (hall 22 (by decide)), Slot_true _ _ (hall 23 (by decide)), Slot_true _ _ (hall 24 (by decide)), Slot_true _ _ (hall 25 (by decide))] at ha
        rw [hall 25 (by decide), hall 26 (by decide)] at hw
        change w2 = V3 at hw
        subst ha
        rw [hw]
        clear hall HFR HSF hw
        have HVT : Hid (Boxed V3 (s + 1) 39 (.slice AQ F.length cQ)) := (HBV3.out.block _ HV.out.lt).trans HV.out
        have HRT : Hid (V3.ownsRow (s + 1) 42 8 (.slice AQ F.length cQ) F.length (plC F)) := own_below HROW.out HBV3.out
        have hszT : s + 3 ≤ V3.heap.size := by have := HBV3.out.size; omega
        have e0 := HVT.out.cell
        have c0 := blk_cell HD3.out 0 _ rfl
        have c1 := blk_cell HD3.out 1 _ rfl
        have c2 := blk_cell HD3.out 2 _ rfl
        have c3 := blk_cell HD3.out 3 _ rfl
        have c4 := blk_cell HD3.out 4 _ rfl
        have c5 := blk_cell HD3.out 5 _ rfl
        have c6 := blk_cell HD3.out 6 _ rfl
        have c7 := blk_cell HD3.out 7 _ rfl
        gi_wp2_with (gi_at_builtin; refine wpListIn_append_own _ rfl _ _ 39 rfl (s + 1) 42 i2 _ 8 72 Try.underlying39 hi2 hz0 hz1 hz2 rfl (by decide) _ F.length (plC F) rfl (own_below HRT.out (one_below _ _)) ⟨V3.heap.size, 0, none⟩ 1 1 (Pl.row ⟨2, 0, ⟨#[]⟩, x, y, uw, uh, ud⟩).toList rfl rfl (cells_new _ _ _) (Pl.row_one _) (by unfold maxLen; omega) (by omega) (by rw [World.size_alloc]; omega) ?_; intro v' w1 hown' hgrow _; obtain ⟨g', cap', rfl⟩ := ownsRow_succ hown'; obtain ⟨hv1, hv2, hr2, hk2, hb2⟩ := HVT.out.appended (by decide) HRT.out (by omega) (Nat.le_refl _) hown' hgrow; have HKV := Lib.hid (KeepV.appended HVT.out HRT.out hgrow hb2); have HR2 := Lib.hid hr2; have HV2 := Lib.hid hv2; have HK2 := Lib.hid hk2; have HB2 := Lib.hid hb2; have hc1 := hv1.cell; have hf1 := hv1.frozen; clear hv1 hv2 hr2 hk2 hb2 hown' hgrow)
        refine ⟨(HK3.out.trans HK2.out).from _, (KeepV.of HBV3.out (by omega)).trans HKV.out, ⟨_, HV2.out, ?_, trivial⟩, (HBW.out.trans (HBV3.out.mono (by omega))).trans HB2.out, Nat.le_trans hszT HB2.out.size⟩
        rw [HFN.out, HPL.out, List.length_append, plC_snoc]
        exact HR2.out
    · have n1 : (kk != 1) = true := by simp [hk1]
      have n2 : (kk != 2) = true := by simp [hk2]
      have HEND : Hid (FlI W0 (s + 1) s (pre ++ [X]) W) := ⟨⟨_, HV.out, by rw [HFN.out, own_0 (by rw [hkk]; exact hk1) (by rw [hkk]; exact hk2), List.append_nil]; exact HROW.out, trivial⟩, HBW.out, hsz⟩
      gi_wp2
      exact ⟨KeepsFrom.refl _ _, KeepV.refl _ _, HEND.out⟩
end Go.Proofs.Ytlgnghehgcoccaa
