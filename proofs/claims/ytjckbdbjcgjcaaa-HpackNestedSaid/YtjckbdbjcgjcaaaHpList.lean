/- hpack.list: the walk. -/
import Derived.Test.YtjckbdbjcgjcaaaHpPlain
import Derived.Test.YtjckbdbjcgjcaaaBoxList
import Derived.Test.YtjckbdbjcgjcaaaBoxValid
import Derived.Deep.RegionHeld3
namespace Go.Proofs.Ytjckbdbjcgjcaaa
open Go.RowKit
attribute [local go_sem] Oper.semAt_some
section
variable {P : Program} {w : World}
/-- Two results, the first of them in a cell. -/
theorem results_cell_tmp {fn : Func} {p t : Tmp} {ty : TypeId} (h : fn.results = #[.cell p ty, .tmp t]) (tmps : Array Value) (i : TypeInfo) (n : Nat) (hi : P.info? ty = some i) (hn : i.size = n) (fs : Array Field) (hu : P.underlying ty = some (.struct fs)) {g off : Nat} {cs : Array Value}
    (hp : tmps.getD p undef = .pointer (some ⟨g, off, none⟩)) (hcs : cs.size = n) (hc : ∀ j, j < n → w.cell? ⟨g, off + j, none⟩ = cs[j]?) : (results fn tmps).run P w = .ok (.tuple #[.agg cs, tmps.getD t undef]) w := by
  have hl := run_loadCells_list (P := P) w ⟨g, off, none⟩ cs.toList (fun j v hv => by
    have hj : j < n := by rw [← hcs]; have := (List.getElem?_eq_some_iff.1 hv).1; simpa using this
    have e : (⟨g, off, none⟩ : Addr).add j = ⟨g, off + j, none⟩ := by unfold Addr.add; split <;> simp_all
    rw [e, hc j hj]
    simpa using hv)
  simp only [Array.length_toList, hcs] at hl
  simp only [results, h]
  rw [Array.getD_eq_getD_getElem?] at hp
  simp [Sem.run_bind, hp, loadVar, Go.sizeOf, typeInfo, hi, hn, isAgg, asAddr, hl, run_underlying hu]
end
theorem kid_of_map {l : List Bx} {Q : List Q5} (h : Q.map Q5.t = l) {i : Nat} (hi : i < Q.length) : (Q[i]).t = kidAt l i := by
  subst h
  simp [kidAt, List.getD, hi]
/-- A box and an error are answered; the memory below is as it was. The box lies in memory, whatever the blocks from n₀ to those of the call hold. -/
def PPost (n₀ : Nat) (R : Bx) (E : Int) (w : World) (e : Ending) (w' : World) : Prop :=
  (∃ A2 c2, e = .returned (.tuple #[.agg (bxA R A2 c2 none 0), .int .i64 E]) ∧ ∀ W' : World, w'.heap.size ≤ W'.heap.size → (∀ k, k < n₀ ∨ w.heap.size ≤ k → k < w'.heap.size → W'.heap[k]? = w'.heap[k]?) → Kids W' 0 W'.heap.size A2 R.kids) ∧ Below w.heap.size w w'
theorem PPost.zero {n₀ : Nat} {R : Bx} {E z : Int} {w w' : World} (h : E = z ∧ R = zeroBx) (hb : Below w.heap.size w w') : PPost n₀ R E w (.returned (.tuple #[.agg zeroBox, .int .i64 z])) w' := by
  obtain ⟨rfl, rfl⟩ := h
  exact ⟨⟨none, 0, rfl, fun _ _ _ => Kids.nil _ _ _ _⟩, hb⟩
/-- What a function answers that hands the answer on: its result's cell, at block z, lies below the call. -/
theorem PPost.up {n₀ z : Nat} {R : Bx} {E : Int} {w w1 w' : World} {e : Ending} (h : PPost n₀ R E w1 e w') (hz : n₀ ≤ z) (hz2 : z < w1.heap.size) (hw : n₀ = w.heap.size) (hb : Below w.heap.size w w') (hh : w'.heap[z]? = some (.cells zeroBox 28 (0, 0))) :
    ∃ A2 c2, e = .returned (.tuple #[.agg (bxA R A2 c2 none 0), .int .i64 E]) ∧ w'.heap[z]? = some (.cells zeroBox 28 (0, 0)) ∧ PPost n₀ R E w (.returned (.tuple #[.agg (bxA R A2 c2 none 0), .int .i64 E])) (w'.setRow z (bxA R A2 c2 none 0)) := by
  obtain ⟨⟨A2, c2, rfl, hk⟩, _⟩ := h
  have hzs : z < w'.heap.size := (Array.getElem?_eq_some_iff.1 hh).1
  refine ⟨A2, c2, rfl, hh, ⟨A2, c2, rfl, fun W' hs hW => ?_⟩, below_setRow hb (by omega) _⟩
  have hse : (w'.setRow z (bxA R A2 c2 none 0)).heap.size = w'.heap.size := by simp
  rw [hse] at hs hW
  refine hk W' hs fun k hk1 hk2 => ?_
  rw [hW k (by omega) hk2]
  exact setRow_other _ _ _ _ (by omega)
set_option maxRecDepth 100000 in
set_option maxHeartbeats 2000000 in
theorem hlist_any (n₀ : Nat) (A : Option Addr) (l : List Bx) (c : Nat) (B : Option Addr) (g : List Int) (d : Nat) (W : Int) (w : World) (hc : cntL l ≤ 1000) (hav : allV l) (hgl : g.length = l.length) (hK : Kids w 0 w.heap.size A l) (hI : Ints w 0 w.heap.size B g) :
    Calls Try.prog 33 #[.slice A l.length c, .slice B l.length d, .int .i64 W] w (PPost n₀ (putR l (lAt g) W) (putE l (lAt g) W) w) := by
  obtain ⟨i1, hi1, hy0, hy1, hy2⟩ := info_parts infoBox
  have HCN := Lib.hid hc
  have hl : l.length ≤ 1000 := by have := cnt_len l; omega
  have HK := Lib.hid (And.intro hK hI)
  have HAV := Lib.hid hav
  have HGL := Lib.hid hgl
  obtain ⟨Q, hQ, hlies, hrow⟩ := row_kids hK
  have hQl : Q.length = l.length := by rw [← hQ]; simp
  have HQ := Lib.hid (And.intro hQ (And.intro hlies (And.intro hrow hQl)))
  have hmk := make_boxes l.length (by omega)
  obtain ⟨d0, d1, hsz, hb⟩ := two_boxes w zeroBox (madeCells zeroBox (l.length * 11)) 28 28
  clear hc hK hI hav hgl hQ hlies hrow
  go_enter Try.func33, Try.ntmps33
  go_wp2_with fail
  change Code.wp _ _ _ _ ((w.alloc (.cells zeroBox 28)).alloc (.cells (madeCells zeroBox (l.length * 11)) 28))
  generalize (w.alloc (.cells zeroBox 28)).alloc (.cells (madeCells zeroBox (l.length * 11)) 28) = W0 at d0 d1 hsz hb ⊢
  have HR0 : Hid (RowX (w.heap.size + 1) Q (lAt g) 0 W0 ∧ W0.heap[w.heap.size]? = some (.cells zeroBox 28 (0, 0)) ∧ Below w.heap.size w W0) := ⟨⟨_, d1, by rw [size_madeCells, hQl], fun i q h => absurd h (Nat.not_lt_zero _)⟩, d0, hb⟩
  try simp only [World.size_alloc]
  clear d0 d1 hsz hb hmk hQl
  go_loopw [9, 10, 18] (fun a b q wr => ∃ i : Nat, i ≤ l.length ∧ q = .int .i64 (i : Int) ∧ a = .int .i64 (maxH l i) ∧ b = .int .i64 (maxD l i) ∧ RowX (w.heap.size + 1) Q (lAt g) i wr ∧ wr.heap[w.heap.size]? = some (.cells zeroBox 28 (0, 0)) ∧ Below w.heap.size w wr) (fun _ _ q _ => l.length - (intOf q).toNat)
  case atStart => exact ⟨0, Nat.zero_le _, rfl, rfl, rfl, HR0.out.1, HR0.out.2.1, HR0.out.2.2⟩
  case round =>
    obtain ⟨i, hi, rfl, rfl, rfl, hrx, hz, hbw⟩ := hrel
    have HR := Lib.hid (And.intro hrx (And.intro hz hbw))
    clear hrx hz hbw
    by_cases hlt : i < l.length
    · obtain ⟨ob, oo, rfl, _, hob, hat⟩ := HQ.out.2.2.1 (by omega)
      have hqi : Q[i]? = some (Q[i]'(by have := HQ.out.2.2.2; omega)) := List.getElem?_eq_getElem _
      have hqt := kid_of_map HQ.out.1 (i := i) (by have := HQ.out.2.2.2; omega)
      generalize (Q[i]'(by have := HQ.out.2.2.2; omega)) = q at hqi hqt
      have hat := hat i q hqi
      obtain ⟨gb, go, rfl, _, hgb, hgc⟩ := HK.out.2 (by have := HGL.out; omega)
      obtain ⟨cs, hcs, hsz, hold⟩ := HR.out.1
      have HCS := Lib.hid hcs
      have hin := Nat.mul_le_mul_right 11 (show i + 1 ≤ Q.length by have := HQ.out.2.2.2; omega)
      rw [Nat.add_mul, Nat.one_mul] at hin
      have hfit : i * 11 + 11 ≤ cs.size := by omega
      have HC : Hid (∀ j, j < 11 → wr.cell? ⟨ob, oo + i * 11 + j, none⟩ = (bxA q.t q.A q.c q.A' q.c')[j]?) := fun j hj => ((HR.out.2.2.cell (p := ⟨ob, oo + i * 11 + j, none⟩) hob).trans (hat j hj)).trans (by unfold Q5.cells; rw [Array.getElem?_toList])
      obtain ⟨p, hp⟩ : ∃ p, lAt g i = p := ⟨_, rfl⟩
      have HPUT : Hid (((((cs.toList.take (i * 11) ++ (bxA q.t q.A q.c q.A' q.c').toList ++ cs.toList.drop (i * 11 + 11)).toArray).setIfInBounds (i * 11 + 6) (.int .i64 p)).size = Q.length * 11) ∧ ∀ k r, k < i + 1 → Q[k]? = some r → ∀ j, j < 11 → (((cs.toList.take (i * 11) ++ (bxA q.t q.A q.c q.A' q.c').toList ++ cs.toList.drop (i * 11 + 11)).toArray).setIfInBounds (i * 11 + 6) (.int .i64 p))[k * 11 + j]? = (r.atX (lAt g k)).cells[j]?) := by
        have h := rowx_put (P := lAt g) hsz hold hqi (by have := HQ.out.2.2.2; omega)
        rw [hp] at h
        exact h
      have hz6 : i * 11 + 6 < ((cs.toList.take (i * 11) ++ (bxA q.t q.A q.c q.A' q.c').toList ++ cs.toList.drop (i * 11 + 11)).toArray).size := by
        simp
        omega
      generalize hnew : (cs.toList.take (i * 11) ++ (bxA q.t q.A q.c q.A' q.c').toList ++ cs.toList.drop (i * 11 + 11)).toArray = cs2 at HPUT hz6
      have HNEW := Lib.hid hnew
      have hd2 : (wr.setRow (w.heap.size + 1) cs2).heap[w.heap.size + 1]? = some (.cells cs2 28 (0, 0)) := setRow_at HCS.out _
      obtain ⟨W2, hW2⟩ : ∃ W2, wr.setRow (w.heap.size + 1) cs2 = W2 := ⟨_, rfl⟩
      have HFAR : Hid (∀ k, k ≠ w.heap.size + 1 → W2.heap[k]? = wr.heap[k]?) := fun k hk => by rw [← hW2]; exact setRow_other _ _ _ _ hk
      have HB2 : Hid (Below w.heap.size w W2) := by rw [← hW2]; exact below_setRow HR.out.2.2 (by omega) _
      rw [hW2] at hd2
      have HW2 := Lib.hid hW2
      have y1 : W2.cell? ⟨gb, go + i, none⟩ = some (.int .i64 p) := by rw [← hp]; exact (HB2.out.cell (p := ⟨gb, go + i, none⟩) hgb).trans (hgc i (by have := HGL.out; omega))
      have e6 : W2.cell? ⟨w.heap.size + 1, i * 11 + 6, none⟩ = some (cs2[i * 11 + 6]) := blk_cell hd2 _ _ (Array.getElem?_eq_getElem hz6)
      have z6 := blk_free hd2 (i * 11 + 6)
      have HD3 : Hid ((W2.setCell ⟨w.heap.size + 1, i * 11 + 6, none⟩ (.int .i64 p)).heap[w.heap.size + 1]? = some (.cells (cs2.setIfInBounds (i * 11 + 6) (.int .i64 p)) 28 (0, 0))) := blk_set hd2 _ _
      have HF3 : Hid (∀ k, k ≠ w.heap.size + 1 → (W2.setCell ⟨w.heap.size + 1, i * 11 + 6, none⟩ (.int .i64 p)).heap[k]? = wr.heap[k]?) := fun k hk => (Below.heap_setCell _ ⟨w.heap.size + 1, i * 11 + 6, none⟩ _ k hk).trans (HFAR.out k hk)
      have HB3 : Hid (Below w.heap.size w (W2.setCell ⟨w.heap.size + 1, i * 11 + 6, none⟩ (.int .i64 p))) := HB2.out.setCell (p := ⟨w.heap.size + 1, i * 11 + 6, none⟩) (by show w.heap.size ≤ w.heap.size + 1; omega) _
      obtain ⟨hh, hhh⟩ : ∃ hh, q.t.h = hh := ⟨_, rfl⟩
      obtain ⟨dd, hdd⟩ : ∃ dd, q.t.d = dd := ⟨_, rfl⟩
      obtain ⟨yy, hyy⟩ : ∃ yy, q.t.y = yy := ⟨_, rfl⟩
      have HCW : Hid (∀ W', Below w.heap.size w W' → W'.cell? ⟨ob, oo + i * 11 + 4, none⟩ = some (.int .i64 hh) ∧ W'.cell? ⟨ob, oo + i * 11 + 5, none⟩ = some (.int .i64 dd) ∧ W'.cell? ⟨ob, oo + i * 11 + 7, none⟩ = some (.int .i64 yy)) := fun W' hW' => by
        rw [← hhh, ← hdd, ← hyy]
        exact ⟨(hW'.cell (p := ⟨ob, oo + i * 11 + 4, none⟩) hob).trans (hat 4 (by omega)), (hW'.cell (p := ⟨ob, oo + i * 11 + 5, none⟩) hob).trans (hat 5 (by omega)), (hW'.cell (p := ⟨ob, oo + i * 11 + 7, none⟩) hob).trans (hat 7 (by omega))⟩
      obtain ⟨y4, y5, y7⟩ := HCW.out _ HB3.out
      obtain ⟨mh, hmh⟩ : ∃ mh, maxH l i = mh := ⟨_, rfl⟩
      obtain ⟨md, hmd⟩ : ∃ md, maxD l i = md := ⟨_, rfl⟩
      obtain ⟨mh', hmh'⟩ : ∃ mh', maxH l (i + 1) = mh' := ⟨_, rfl⟩
      obtain ⟨md', hmd'⟩ : ∃ md', maxD l (i + 1) = md' := ⟨_, rfl⟩
      have hnum := HAV.out.num hlt
      rw [← hqt, hhh, hdd, hyy] at hnum
      unfold rngL at hnum
      have m1 : (if mh < yy + hh then yy + hh else mh) = mh' := by rw [← hmh', maxH, hmh, ← hqt, hyy, hhh]; exact (max_if _ _).symm
      have m2 : (if md < dd - yy then dd - yy else md) = md' := by rw [← hmd', maxD, hmd, ← hqt, hyy, hdd]; exact (max_if _ _).symm
      have s1 : IntKind.i64.wrap (yy + hh) = yy + hh := IntWalk.i64_in _ (by omega)
      have s2 : IntKind.i64.wrap (dd - yy) = dd - yy := IntWalk.i64_in _ (by omega)
      have HMM := Lib.hid (And.intro hmh' hmd')
      rw [hmh, hmd]
      clear hat hgc hcs hsz hold hin hp hnew hd2 hhh hdd hyy hmh hmd hmh' hmd' hnum hqt hW2
      go_wp2_with (first
        | ((with_reducible refine at_load 28 ?_); go_loud (refine wpList_load_all i1 11 hi1 hy1 _ Try.underlying28 rfl rfl HC.out ?_))
        | ((with_reducible refine at_store 28 ?_); go_loud (refine wpList_store_all i1 11 hi1 hy1 rfl rfl rfl HCS.out hfit (bxA_one q.t q.A q.c q.A' q.c') ?_); rw [HNEW.out, HW2.out]))
      go_quiet (fail)
      go_wp2_with fail
      go_quiet (fail)
      go_wp2_with fail
      go_roundw
      case rel => exact ⟨i + 1, by omega, by go_num, by rw [HMM.out.1], by rw [HMM.out.2], ⟨_, HD3.out, HPUT.out.1, HPUT.out.2⟩, (HF3.out _ (by omega)).trans HR.out.2.1, below_drewN HB3.out _⟩
      case measure => simp [intOf]; omega
    · obtain rfl : i = l.length := by omega
      have hlow : (l.length : Int) < 20000 := by omega
      have hlow2 : ¬ (20000 : Int) ≤ (l.length : Int) := by omega
      have HX : Hid (Kids wr 0 wr.heap.size (some ⟨w.heap.size + 1, 0, none⟩) (movedX l (lAt g))) := by
        have h1 := HR.out.1
        obtain ⟨cs, hcs, _, _⟩ := HR.out.1
        have h2 := RowX.kids (lo := 0) (hi := wr.heap.size) (by rw [HQ.out.2.2.2]; exact h1) (Nat.zero_le _) (Array.getElem?_eq_some_iff.1 hcs).1 (fun q hq => ⟨(HQ.out.2.1 q hq).1.next HR.out.2.2, (HQ.out.2.1 q hq).2.1.next HR.out.2.2, (HQ.out.2.1 q hq).2.2⟩)
        rw [rowX_moved HQ.out.1] at h2
        exact h2
      have HLI : Hid (∀ A c W', Kids W' 0 W'.heap.size A (movedX l (lAt g)) → Calls Try.prog 59 #[.int .i64 W, .int .i64 (maxH l l.length), .int .i64 (maxD l l.length), .slice A l.length c] W' fun e w' => (∃ A2 c2, e = .returned (.agg (bxA (rowB l (lAt g) W) A2 c2 none 0)) ∧ Kids w' W'.heap.size w'.heap.size A2 (rowB l (lAt g) W).kids) ∧ Below W'.heap.size W' w') := fun A c W' hk => by
        have h := list_any W (maxH l l.length) (maxD l l.length) (movedX l (lAt g)) A c W' (fun i hi => by
          rw [movedX_len] at hi
          rw [movedX_at hi]
          exact atX_fit (proper_fit _ (HAV.out i hi).1) _) (by rw [movedX_cnt]; have := HCN.out; omega) hk
        rw [movedX_len] at h
        exact h
      have HVA : Hid (∀ (r : Bool) A c W', (r = true ↔ validB (rowB l (lAt g) W)) → Kids W' 0 W'.heap.size A (rowB l (lAt g) W).kids → Calls Try.prog 46 #[.agg (bxA (rowB l (lAt g) W) A c none 0)] W' fun e w' => e = .returned (.bool r) ∧ Below W'.heap.size W' w') := fun r A c W' hr hk =>
        bValid_any (rowB l (lAt g) W) A c none 0 W' (rowB_lens hl HCN.out).1 (by have := (rowB_lens (P := lAt g) (W := W) hl HCN.out).2; omega) hr hk (fun h => absurd h (by simp [rowB, listB, Bx.src]))
      have HPO : Hid ((validB (rowB l (lAt g) W) → putE l (lAt g) W = 0 ∧ putR l (lAt g) W = rowB l (lAt g) W) ∧ (¬ validB (rowB l (lAt g) W) → putE l (lAt g) W = 6 ∧ putR l (lAt g) W = zeroBx)) := ⟨put_yes, put_no⟩
      have HSR : Hid ((rowB l (lAt g) W).src = []) := rfl
      generalize rowB l (lAt g) W = tb at HLI HVA HPO HSR
      generalize maxH l l.length = mh at HLI ⊢
      generalize maxD l l.length = md at HLI ⊢
      go_wp2_with fail
      refine (HLI.out _ _ wr HX.out).mono ?_
      rintro e w2 ⟨⟨A2, c2, rfl, hk2⟩, hb2⟩
      have HB3 : Hid (Below w2.heap.size w2 (w2.alloc (.cells (bxA tb A2 c2 none 0) 28))) := one_below _ _
      have HB2 := Lib.hid (below_next HR.out.2.2 hb2)
      have HZ2 := Lib.hid ((hb2.block w.heap.size (Array.getElem?_eq_some_iff.1 HR.out.2.1).1).trans HR.out.2.1)
      have HK2 := Lib.hid hk2
      have HD3 := Lib.hid (blk_new w2 (.cells (bxA tb A2 c2 none 0) 28))
      have HC3 : Hid (∀ j, j < 11 → (w2.alloc (.cells (bxA tb A2 c2 none 0) 28)).cell? ⟨w2.heap.size, 0 + j, none⟩ = (bxA tb A2 c2 none 0)[j]?) := fun j _ => by
        rw [Nat.zero_add]; exact cell_of_row _ _ _ _ _ _ HD3.out
      obtain ⟨r, hr⟩ := bool_of (validB tb)
      have HRV := Lib.hid hr
      clear hk2 hb2 hr
      go_wp2_with ((with_reducible refine at_load 28 ?_); go_loud (refine wpList_load_all i1 11 hi1 hy1 _ Try.underlying28 rfl rfl HC3.out ?_))
      refine (HVA.out r A2 c2 (w2.alloc (.cells (bxA tb A2 c2 none 0) 28)) HRV.out ((HK2.out.next HB3.out).mono (Nat.zero_le _) (Nat.le_refl _))).mono ?_
      rintro e w4 ⟨rfl, hb4⟩
      have HB4 := Lib.hid (below_next HB2.out (below_next HB3.out hb4))
      have hs3 : w.heap.size < w2.heap.size := (Array.getElem?_eq_some_iff.1 HZ2.out).1
      have D6 : Hid (w4.heap[w.heap.size]? = some (.cells zeroBox 28 (0, 0))) := (hb4.block _ (by rw [World.size_alloc]; omega)).trans (blk_more HZ2.out _)
      have HC4 : Hid (∀ j, j < 11 → w4.cell? ⟨w2.heap.size, 0 + j, none⟩ = (bxA tb A2 c2 none 0)[j]?) := fun j hj => (hb4.cell (p := ⟨w2.heap.size, 0 + j, none⟩) (by show w2.heap.size < _; rw [World.size_alloc]; omega)).trans (HC3.out j hj)
      have HK4 := Lib.hid (HK2.out.next (below_next HB3.out hb4))
      clear hb4
      cases r with
      | false =>
        go_wp2_with ((with_reducible refine at_store 28 ?_); go_loud (refine wpList_store_all i1 11 hi1 hy1 rfl rfl rfl D6.out (by decide) (bxA_one zeroBx none 0 none 0) ?_); rw [row_all _ _ rfl rfl])
        refine bodyPost_ret (results_cell_tmp rfl _ i1 11 hi1 hy1 _ Try.underlying28 rfl rfl (fun j _ => by rw [Nat.zero_add]; exact cell_setRow_same _ _ _ _ _ _ _ D6.out)) rfl ?_
        exact PPost.zero (HPO.out.2 fun h => by have := HRV.out.2 h; simp at this) (below_setRow HB4.out (Nat.le_refl _) _)
      | true =>
        have HVT : Hid (validB tb) := HRV.out.1 rfl
        clear HRV
        go_wp2_with (first
          | ((with_reducible refine at_load 28 ?_); go_loud (refine wpList_load_all i1 11 hi1 hy1 _ Try.underlying28 rfl rfl HC4.out ?_))
          | ((with_reducible refine at_store 28 ?_); go_loud (refine wpList_store_all i1 11 hi1 hy1 rfl rfl rfl D6.out (by decide) (bxA_one tb A2 c2 none 0) ?_); rw [row_all _ _ rfl rfl]))
        refine bodyPost_ret (results_cell_tmp rfl _ i1 11 hi1 hy1 _ Try.underlying28 rfl rfl (fun j _ => by rw [Nat.zero_add]; exact cell_setRow_same _ _ _ _ _ _ _ D6.out)) rfl ?_
        obtain ⟨h1, h2⟩ := HPO.out.1 HVT.out
        rw [h1, h2]
        refine ⟨⟨A2, c2, rfl, fun W' hs hW => ?_⟩, below_setRow HB4.out (Nat.le_refl _) _⟩
        have hsw : w.heap.size < wr.heap.size := (Array.getElem?_eq_some_iff.1 HR.out.2.1).1
        have hse : (w4.setRow w.heap.size (bxA tb A2 c2 none 0)).heap.size = w4.heap.size := by simp
        rw [hse] at hs hW
        refine (HK4.out.same fun b o hb1 hb2 => ?_).mono (Nat.zero_le _) hs
        exact cell_of_heap ((hW b (.inr (by omega)) hb2).trans (setRow_other _ _ _ _ (by omega)))
end Go.Proofs.Ytjckbdbjcgjcaaa
