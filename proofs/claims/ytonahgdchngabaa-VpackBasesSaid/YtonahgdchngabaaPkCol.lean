/- vpack.Column: the walk. -/
import Derived.Test.YtonahgdchngabaaPkPlain
import Derived.Test.YtonahgdchngabaaPkClone
import Derived.Test.YtonahgdchngabaaBoxList
import Derived.Test.YtonahgdchngabaaBoxValid
import Derived.Deep.RegionHeld3
import Derived.Laws.EntriesVeiled
import Derived.Test.YtonahgdchngabaaRoundQuiet2
namespace Go.Proofs.Ytonahgdchngabaa
open Go.RowKit
attribute [local go_sem] Oper.semAt_some
section
variable {P : Program} {w : World}
/-- Two results, the first of them in a cell. -/
theorem results_cell_tmp {fn : Func} {p t : Tmp} {ty : TypeId} (h : fn.results = #[.cell p ty, .tmp t]) (tmps : Array Value) (i : TypeInfo) (n : Nat) (hi : P.info? ty = some i) (hn : i.size = n) (fs : Array Field) (hu : P.underlying ty = some (.struct fs)) {g off : Nat} {cs : Array Value}
    (hp : tmps.getD p undef = .pointer (some ⟨g, off, none⟩)) (hcs : cs.size = n) (hc : ∀ j, j < n → w.cell? ⟨g, off + j, none⟩ = cs[j]?) : (results fn tmps).run P w = .ok (.tuple #[.agg cs, tmps.getD t undef]) w := by
  have hl := run_loadCells_list (P := P) w ⟨g, off, none⟩ cs.toList (fun j v hv => by
    have hj : j < n := by rw [← hcs]; have := (List.getElem?_eq_some_iff.1 hv).1; simpa using this
    have e : (⟨g, off, none⟩ : Addr).add j = ⟨g, off + j, none⟩ := by unfold Addr.add; split <;> simp_all
    rw [e, hc j hj]
    simpa using hv)
  simp only [Array.length_toList, hcs] at hl
  simp only [results, h]
  rw [Array.getD_eq_getD_getElem?] at hp
  simp [Sem.run_bind, hp, loadVar, Go.sizeOf, typeInfo, hi, hn, isAgg, asAddr, hl, run_underlying hu]
end
theorem origQ {l : List Bx} {Q : List Q5} (h : Q.map Q5.t = l) : (fun i => ((Q[i]?).getD noQ).t.y) = origY l := by
  subst h
  funext i
  unfold origY kidAt
  rw [List.getD_eq_getElem?_getD, List.getElem?_map]
  cases Q[i]? <;> rfl
theorem ownFrom_below {β : Type} {B n₀ : Nat} {w : World} (h1 : n₀ ≤ w.heap.size) (h2 : w.heap.size ≤ B) : OwnFrom B (fun (_ : β) W => Below n₀ w W) := fun _ W W' row h hg hr =>
  h.trans ((Below.refl n₀ W).grown hg (Nat.le_trans h1 h.size) (fun k hk => by obtain ⟨h3, _⟩ := hr k hk; omega))
theorem size_own {β : Type} (B n : Nat) : OwnFrom B (fun (_ : β) (W : World) => n ≤ W.heap.size) := fun _ _W _W' _ h hg _ => Nat.le_trans h hg.size
theorem keepsFrom_below {B : Nat} {W V : World} (h : Below W.heap.size W V) : KeepsFrom B W V :=
  ⟨h.size, fun k _o _ ho _ => (h.block k (Array.getElem?_eq_some_iff.1 ho).1).trans ho⟩
theorem kid_of_map {l : List Bx} {Q : List Q5} (h : Q.map Q5.t = l) {i : Nat} (hi : i < Q.length) : (Q[i]).t = kidAt l i := by
  subst h
  simp [kidAt, List.getD, hi]
theorem max_if (a b : Int) : max a b = if a < b then b else a := by
  split <;> omega
/-- The memory of Column while the heights are set. -/
structure ColMem (w : World) (A : Option Addr) (n c : Nat) (B : Option Addr) (m d s bg c2 : Nat) (Q : List Q5) (Y : Nat → Int) (W : World) : Prop where
  row : RowAt bg Q Y W
  b0 : W.heap[w.heap.size]? = some (.cells #[.slice A n c] 22 (0, 0))
  b1 : W.heap[w.heap.size + 1]? = some (.cells #[.slice B m d] 23 (0, 0))
  b2 : W.heap[w.heap.size + 2]? = some (.cells zeroBox 27 (0, 0))
  s0 : W.heap[s]? = some (.cells #[.slice (some ⟨bg, 0, none⟩) n c2] 22 (0, 0))
  s1 : W.heap[s + 1]? = some (.cells #[.func (.func 23) #[] #[.pointer (some ⟨w.heap.size, 0, none⟩), .pointer (some ⟨w.heap.size + 1, 0, none⟩)]] 46 (0, 0))
  bel : Below w.heap.size w W
theorem ColMem.own {β : Type} {w : World} {A : Option Addr} {n c : Nat} {B : Option Addr} {m d s bg c2 E : Nat} {Q : List Q5} {Y : β → Nat → Int} (hE : w.heap.size ≤ E) : OwnFrom E (fun x W => ColMem w A n c B m d s bg c2 Q (Y x) W) := fun x W W' row h hg hr =>
  ⟨rowAt_from (β := β) bg E Q Y x W W' row h.row hg hr, heap_from (β := Unit) _ _ _ _ () W W' row h.b0 hg hr, heap_from (β := Unit) _ _ _ _ () W W' row h.b1 hg hr, heap_from (β := Unit) _ _ _ _ () W W' row h.b2 hg hr, heap_from (β := Unit) _ _ _ _ () W W' row h.s0 hg hr, heap_from (β := Unit) _ _ _ _ () W W' row h.s1 hg hr, ownFrom_below (β := Unit) (Nat.le_refl _) hE () W W' row h.bel hg hr⟩
/-- All below is as it was, and one height is set. -/
theorem ColMem.set {w : World} {A : Option Addr} {n c : Nat} {B : Option Addr} {m d s bg c2 : Nat} {Q : List Q5} {Y : Nat → Int} {W W' : World} (h : ColMem w A n c B m d s bg c2 Q Y W) (hb : Below W.heap.size W W') {i : Nat} (hi : i < Q.length) (y : Int) (h1 : w.heap.size + 2 < bg) (h2 : bg < s) : ColMem w A n c B m d s bg c2 Q (updI Y i y) (W'.setCell ⟨bg, i * 11 + 7, none⟩ (.int .i64 y)) := by
  have hk : ∀ k o, W.heap[k]? = some o → W'.heap[k]? = some o := fun k o h => (hb.block k (Array.getElem?_eq_some_iff.1 h).1).trans h
  have far : ∀ k o, k ≠ bg → W.heap[k]? = some o → (W'.setCell ⟨bg, i * 11 + 7, none⟩ (.int .i64 y)).heap[k]? = some o := fun k o hn h => blk_far (hk k o h) (p := ⟨bg, i * 11 + 7, none⟩) hn _
  refine ⟨(h.row.keep (hb.block bg h.row.lt)).set hi y, far _ _ (by omega) h.b0, far _ _ (by omega) h.b1, far _ _ (by omega) h.b2, far _ _ (by omega) h.s0, far _ _ (by omega) h.s1, ?_⟩
  exact (h.bel.trans (hb.mono h.bel.size)).setCell (p := ⟨bg, i * 11 + 7, none⟩) (by show w.heap.size ≤ bg; omega) _
theorem KeepB.set {n₀ lo g : Nat} {Q : List Q5} {W W' : World} (hb : Below W.heap.size W W') (hn : n₀ ≤ g) (hn2 : n₀ ≤ W.heap.size) (hlo : lo < W.heap.size) (hne : lo ≠ g) (hg : g < W.heap.size) {i : Nat} (hi : i < Q.length) (y : Int) : KeepB n₀ lo g Q W (W'.setCell ⟨g, i * 11 + 7, none⟩ (.int .i64 y)) :=
  ⟨(hb.mono hn2).setCell (p := ⟨g, i * 11 + 7, none⟩) hn _, (Below.heap_setCell _ ⟨g, i * 11 + 7, none⟩ _ lo hne).trans (hb.block lo hlo), fun ⟨_Y, r⟩ => ⟨_, (r.keep (hb.block g hg)).set hi y⟩⟩
def ColPost (l : List Bx) (g : List Int) (b : Int) (w : World) (e : Ending) (w' : World) : Prop :=
  (∃ A2 c2, e = .returned (.tuple #[.agg (bxA (colR l g b) A2 c2 none 0), .int .i64 (colE l g b)]) ∧ Kids w' 0 w'.heap.size A2 (colR l g b).kids) ∧ Below w.heap.size w w'
theorem ColPost.zero {l : List Bx} {g : List Int} {b z : Int} {w w' : World} (h : colE l g b = z ∧ colR l g b = zeroBx) (hb : Below w.heap.size w w') : ColPost l g b w (.returned (.tuple #[.agg zeroBox, .int .i64 z])) w' := by
  unfold ColPost
  rw [h.1, h.2]
  exact ⟨⟨none, 0, rfl, Kids.nil _ _ _ _⟩, hb⟩
set_option maxRecDepth 100000 in
set_option maxHeartbeats 4000000 in
theorem column_any (A : Option Addr) (l : List Bx) (c : Nat) (B : Option Addr) (g : List Int) (d : Nat) (b : Int) (w : World) (hc : cntL l ≤ 1000) (hg : g.length ≤ lenMax) (hK : Kids w 0 w.heap.size A l) (hI : Ints w 0 w.heap.size B g) :
    Calls Try.prog 10 #[.slice A l.length c, .slice B g.length d, .int .i64 b] w (ColPost l g b w) := by
  obtain ⟨i1, hi1, hy0, hy1, hy2⟩ := info_parts infoBox
  have HCN := Lib.hid hc
  have hl : l.length ≤ 1000 := by have := cnt_len l; omega
  have hg' : g.length ≤ 9223372036854775807 := hg
  have HK := Lib.hid (And.intro hK hI)
  clear hc hg hK hI
  obtain ⟨d0, d1, d2, hsz, hb⟩ := three_blocks w #[.slice A l.length c] #[.slice B g.length d] zeroBox 22 23 27
  refine (callsIn_wide (n := 4)).1 ?_
  refine callsIn_of_wp_marks Try.func10 rfl trivial ?_ rfl
  refine wpIn_wide.2 ?_
  simp only [Try.ntmps10, List.size_toArray, List.length_cons, List.length_nil, Nat.reduceAdd, Nat.reduceSub, Array.replicate_succ, Array.replicate_zero, List.push_toArray, List.append_toArray, List.nil_append, List.cons_append]
  go_wp2_with fail
  change Code.wp _ _ _ _ (((w.alloc (.cells #[.slice A l.length c] 22)).alloc (.cells #[.slice B g.length d] 23)).alloc (.cells zeroBox 27))
  generalize ((w.alloc (.cells #[.slice A l.length c] 22)).alloc (.cells #[.slice B g.length d] 23)).alloc (.cells zeroBox 27) = W0 at d0 d1 d2 hsz hb ⊢
  simp only [Nat.add_assoc, Nat.reduceAdd]
  have HD : Hid (W0.heap[w.heap.size]? = some (.cells #[.slice A l.length c] 22 (0, 0)) ∧ W0.heap[w.heap.size + 1]? = some (.cells #[.slice B g.length d] 23 (0, 0)) ∧ W0.heap[w.heap.size + 2]? = some (.cells zeroBox 27 (0, 0))) := ⟨d0, d1, d2⟩
  have HSZ := Lib.hid hsz
  have HB0 := Lib.hid hb
  clear d0 d1 d2 hsz hb
  -- the three blocks, in every later world
  have HM : Hid (∀ W, Below W0.heap.size W0 W → W.cell? ⟨w.heap.size, 0, none⟩ = some (.slice A l.length c) ∧ W.cell? ⟨w.heap.size + 1, 0, none⟩ = some (.slice B g.length d) ∧ W.heap[w.heap.size + 2]? = some (.cells zeroBox 27 (0, 0)) ∧ Below w.heap.size w W) := fun W hW => by
    have h3 := HSZ.out
    exact ⟨blk_cell ((hW.block _ (by omega)).trans HD.out.1) 0 _ rfl, blk_cell ((hW.block _ (by omega)).trans HD.out.2.1) 0 _ rfl, (hW.block _ (by omega)).trans HD.out.2.2, HB0.out.trans (hW.mono (by omega))⟩
  go_loopw [23] (fun q wr => ∃ i : Nat, i ≤ l.length ∧ q = .int .i64 (i : Int) ∧ (∀ k, k < i → validB (kidAt l k)) ∧ Below W0.heap.size W0 wr) (fun q _ => l.length - (intOf q).toNat)
  case atStart => exact ⟨0, Nat.zero_le _, rfl, fun k hk => absurd hk (Nat.not_lt_zero _), Below.refl _ _⟩
  case round =>
    obtain ⟨i, hi, rfl, hall, hbw⟩ := hrel
    have HALL := Lib.hid hall
    have HB := Lib.hid hbw
    obtain ⟨x3, x4, hz6, hbb⟩ := HM.out wr hbw
    have HZ := Lib.hid hz6
    have HBB := Lib.hid hbb
    clear hall hbw hz6 hbb
    by_cases hlt : i < l.length
    · obtain ⟨kb, ko, A1, c1, A2, c2, rfl, _, hkb, hat, hk1, hi1', hl1⟩ := HK.out.1.at hlt
      have HC : Hid (∀ j, j < 11 → wr.cell? ⟨kb, ko + i * 11 + j, none⟩ = (bxA (kidAt l i) A1 c1 A2 c2)[j]?) := fun j hj => (HBB.out.cell (p := ⟨kb, ko + i * 11 + j, none⟩) hkb).trans (hat j hj)
      obtain ⟨r, hr⟩ := bool_of (validB (kidAt l i))
      have HR := Lib.hid hr
      have HKI : Hid (Kids wr 0 wr.heap.size A1 (kidAt l i).kids ∧ Ints wr 0 wr.heap.size A2 (kidAt l i).src ∧ lens (kidAt l i)) := ⟨hk1.next HBB.out, hi1'.next HBB.out, hl1⟩
      clear hat hk1 hi1' hl1 hr
      go_wp2_with ((with_reducible refine at_load 27 ?_); go_loud (refine wpList_load_all i1 11 hi1 hy1 _ Try.underlying27 rfl rfl HC.out ?_))
      refine (bValid_any (kidAt l i) A1 c1 A2 c2 _ HKI.out.2.2 (by have := cnt_kid l hlt; have := HCN.out; omega) HR.out HKI.out.1 HKI.out.2.1).mono ?_
      rintro e w2 ⟨rfl, hb2⟩
      have HB2 := Lib.hid (below_next HB.out hb2)
      clear hb2
      cases r with
      | false =>
        have D6 := Lib.hid (HM.out w2 HB2.out).2.2
        go_wp2_with ((with_reducible refine at_store 27 ?_); go_loud (refine wpList_store_all i1 11 hi1 hy1 rfl rfl rfl D6.out.1 (by decide) (bxA_one zeroBx none 0 none 0) ?_); rw [row_all _ _ rfl rfl])
        refine ⟨_, results_cell_tmp rfl _ i1 11 hi1 hy1 _ Try.underlying27 rfl rfl (fun j _ => by rw [Nat.zero_add]; exact cell_setRow_same _ _ _ _ _ _ _ D6.out.1), ?_⟩
        exact ColPost.zero (colE_1 fun h => by have := HR.out.2 (h i hlt); simp at this) (below_setRow D6.out.2 (by omega) _)
      | true =>
        have HVI : Hid (validB (kidAt l i)) := HR.out.1 rfl
        clear HR
        go_wp2_with fail
        go_roundw
        case rel => exact ⟨i + 1, by omega, by go_num, fun k hk => by
          rcases Nat.lt_succ_iff_lt_or_eq.1 hk with h | rfl
          · exact HALL.out k h
          · exact HVI.out, HB2.out⟩
        case measure => simp [intOf]; omega
    · obtain rfl : i = l.length := by omega
      have HAV : Hid (allV l) := HALL.out
      have D6 : Hid (wr.heap[w.heap.size + 2]? = some (.cells zeroBox 27 (0, 0)) ∧ Below w.heap.size w wr) := ⟨HZ.out, HBB.out⟩
      by_cases hgl : g.length = l.length
      case neg =>
        have q0 : ¬ ((g.length : Int) = (l.length : Int)) := by omega
        have q1 : ((g.length : Int) != (l.length : Int)) = true := by simp; omega
        have HGL := Lib.hid hgl
        clear hgl
        go_wp2_with ((with_reducible refine at_store 27 ?_); go_loud (refine wpList_store_all i1 11 hi1 hy1 rfl rfl rfl D6.out.1 (by decide) (bxA_one zeroBx none 0 none 0) ?_); rw [row_all _ _ rfl rfl])
        refine ⟨_, results_cell_tmp rfl _ i1 11 hi1 hy1 _ Try.underlying27 rfl rfl (fun j _ => by rw [Nat.zero_add]; exact cell_setRow_same _ _ _ _ _ _ _ D6.out.1), ?_⟩
        exact ColPost.zero (colE_2 HAV.out fun h => HGL.out h.1) (below_setRow D6.out.2 (by omega) _)
      by_cases hb0 : 0 ≤ b
      case neg =>
        have HBN := Lib.hid hb0
        have q2 : b < 0 := by omega
        have HGL := Lib.hid hgl
        rw [hgl] at x4
        clear hgl hb0
        go_wp2_with ((with_reducible refine at_store 27 ?_); go_loud (refine wpList_store_all i1 11 hi1 hy1 rfl rfl rfl D6.out.1 (by decide) (bxA_one zeroBx none 0 none 0) ?_); rw [row_all _ _ rfl rfl])
        refine ⟨_, results_cell_tmp rfl _ i1 11 hi1 hy1 _ Try.underlying27 rfl rfl (fun j _ => by rw [Nat.zero_add]; exact cell_setRow_same _ _ _ _ _ _ _ D6.out.1), ?_⟩
        exact ColPost.zero (colE_2 HAV.out fun h => by have := HBN.out; have := h.2.1; omega) (below_setRow D6.out.2 (by omega) _)
      by_cases hb1 : b < (l.length : Int)
      case neg =>
        have HBN := Lib.hid hb1
        have q2 : (l.length : Int) ≤ b := by omega
        have HGL := Lib.hid hgl
        rw [hgl] at x4
        clear hgl hb1
        go_wp2_with ((with_reducible refine at_store 27 ?_); go_loud (refine wpList_store_all i1 11 hi1 hy1 rfl rfl rfl D6.out.1 (by decide) (bxA_one zeroBx none 0 none 0) ?_); rw [row_all _ _ rfl rfl])
        refine ⟨_, results_cell_tmp rfl _ i1 11 hi1 hy1 _ Try.underlying27 rfl rfl (fun j _ => by rw [Nat.zero_add]; exact cell_setRow_same _ _ _ _ _ _ _ D6.out.1), ?_⟩
        exact ColPost.zero (colE_2 HAV.out fun h => by have := HBN.out; have := h.2.2; omega) (below_setRow D6.out.2 (by omega) _)
      have HOK : Hid (colOk l g b) := ⟨hgl, hb0, hb1⟩
      have HGL := Lib.hid hgl
      rw [hgl] at x4
      clear hgl
      go_wp2_with fail
      rename World => wa
      have HWA := Lib.hid HB.out
      clear HZ HBB D6 HB x3 x4
      go_loopw [52] (fun q wr => ∃ i : Nat, i ≤ l.length ∧ q = .int .i64 (i : Int) ∧ (∀ k, k < i → rngL (lAt g k)) ∧ Below W0.heap.size W0 wr) (fun q _ => l.length - (intOf q).toNat)
      case atStart => exact ⟨0, Nat.zero_le _, rfl, fun k hk => absurd hk (Nat.not_lt_zero _), HWA.out⟩
      case round =>
        obtain ⟨i, hi, rfl, hall, hbw⟩ := hrel
        have HALG := Lib.hid hall
        have HB := Lib.hid hbw
        obtain ⟨x3, x4, hz6, hbb⟩ := HM.out wr hbw
        rw [HGL.out] at x4
        have HZ := Lib.hid hz6
        have HBB := Lib.hid hbb
        clear hall hbw hz6 hbb
        by_cases hlt : i < l.length
        · obtain ⟨gb, go, rfl, _, hgb, hgc⟩ := HK.out.2 (by have := HGL.out; omega)
          have yg := (HBB.out.cell (p := ⟨gb, go + i, none⟩) hgb).trans (hgc i (by have := HGL.out; omega))
          clear hgc
          obtain ⟨r, hr⟩ := bool_of (rngL (lAt g i))
          have HR := Lib.hid hr
          clear hr
          go_wp2_with fail
          refine (lvalid_any (lAt g i) _ HR.out).mono ?_
          rintro e w2 ⟨rfl, rfl⟩
          cases r with
          | false =>
            have D6 : Hid (w2.heap[w.heap.size + 2]? = some (.cells zeroBox 27 (0, 0)) ∧ Below w.heap.size w w2) := ⟨HZ.out, HBB.out⟩
            go_wp2_with ((with_reducible refine at_store 27 ?_); go_loud (refine wpList_store_all i1 11 hi1 hy1 rfl rfl rfl D6.out.1 (by decide) (bxA_one zeroBx none 0 none 0) ?_); rw [row_all _ _ rfl rfl])
            refine ⟨_, results_cell_tmp rfl _ i1 11 hi1 hy1 _ Try.underlying27 rfl rfl (fun j _ => by rw [Nat.zero_add]; exact cell_setRow_same _ _ _ _ _ _ _ D6.out.1), ?_⟩
            exact ColPost.zero (colE_3 HAV.out HOK.out fun h => by have := HR.out.2 (h i (by have := HGL.out; omega)); simp at this) (below_setRow D6.out.2 (by omega) _)
          | true =>
            have HVI : Hid (rngL (lAt g i)) := HR.out.1 rfl
            clear HR
            go_wp2_with fail
            go_roundw
            case rel => exact ⟨i + 1, by omega, by go_num, fun k hk => by
              rcases Nat.lt_succ_iff_lt_or_eq.1 hk with h | rfl
              · exact HALG.out k h
              · exact HVI.out, HB.out⟩
            case measure => simp [intOf]; omega
        · obtain rfl : i = l.length := by omega
          have HGO : Hid (gapsOk g) := fun k hk => HALG.out k (by have := HGL.out; omega)
          obtain ⟨Q, q1, q2, q3, q4⟩ := row_src HK.out.1
          have HQ := Lib.hid (And.intro q1 (And.intro q2 (And.intro q3 q4)))
          clear q1 q2 q3 q4 HALG HALL
          obtain ⟨nb, rfl⟩ : ∃ nb : Nat, b = (nb : Int) := ⟨b.toNat, by omega⟩
          have hnb : nb < l.length := by omega
          go_wp2_with fail
          refine (clone_boxes A c l wr (by omega) HQ.out.1 (fun W' hW' h0 => HQ.out.2.2.2 W' (below_next HBB.out hW') h0)).mono ?_
          rintro e w2 ⟨⟨A2, c2, rfl, hcp, hcap⟩, hb2⟩
          have HCP := Lib.hid hcp
          have HB2 := Lib.hid (below_next HB.out hb2)
          have hlg : 0 < l.length := by omega
          obtain ⟨bg, cur, rfl, hbg1, hbg2, hbg3⟩ := hcp hlg
          have HROW : Hid (RowAt bg Q (fun i => ((Q[i]?).getD noQ).t.y) w2) := row_start HCP.out hlg rfl
          clear hcp hb2 hbg3 x3 x4
          obtain ⟨u0, u1, usz, ub⟩ := two_boxes w2 #[.slice (some ⟨bg, 0, none⟩) l.length c2] #[.func (.func 23) #[] #[.pointer (some ⟨w.heap.size, 0, none⟩), .pointer (some ⟨w.heap.size + 1, 0, none⟩)]] 22 46
          have HROW3 := Lib.hid (HROW.out.keep (ub.block bg (Array.getElem?_eq_some_iff.1 hbg2).1))
          have hqn : nb < Q.length := by have := congrArg List.length HQ.out.1; rw [List.length_map] at this; omega
          have x11 := blk_cell u0 0 _ rfl
          have x7 := HROW3.out.cell (List.getElem?_eq_getElem hqn) (j := 7) (by omega) rfl
          have z7 := HROW3.out.free (nb * 11 + 7)
          have hgl2 : bg < w2.heap.size := (Array.getElem?_eq_some_iff.1 hbg2).1
          have hne : w2.heap.size ≠ bg := by omega
          go_wp2_with fail
          have e2 : (w2.setCell ⟨bg, nb * 11 + 7, none⟩ (.int .i64 0)).heap.size = w2.heap.size := by simp
          obtain ⟨v0, v1, vsz, vb⟩ := two_boxes (w2.setCell ⟨bg, nb * 11 + 7, none⟩ (.int .i64 0)) #[.slice (some ⟨bg, 0, none⟩) l.length c2] #[.func (.func 23) #[] #[.pointer (some ⟨w.heap.size, 0, none⟩), .pointer (some ⟨w.heap.size + 1, 0, none⟩)]] 22 46
          rw [e2] at v0 v1 vsz vb
          have HMEM : Hid (ColMem w A l.length c B g.length d w2.heap.size bg c2 Q (updI (origY l) nb 0) (((w2.setCell ⟨bg, nb * 11 + 7, none⟩ (.int .i64 0)).alloc (.cells #[.slice (some ⟨bg, 0, none⟩) l.length c2] 22)).alloc (.cells #[.func (.func 23) #[] #[.pointer (some ⟨w.heap.size, 0, none⟩), .pointer (some ⟨w.heap.size + 1, 0, none⟩)]] 46))) := by
            have hbz := HSZ.out
            have hbs := HB.out.size
            have e1 := HB2.out.size
            have hall : ∀ k o, k ≠ bg → W0.heap[k]? = some o → (((w2.setCell ⟨bg, nb * 11 + 7, none⟩ (.int .i64 0)).alloc (.cells #[.slice (some ⟨bg, 0, none⟩) l.length c2] 22)).alloc (.cells #[.func (.func 23) #[] #[.pointer (some ⟨w.heap.size, 0, none⟩), .pointer (some ⟨w.heap.size + 1, 0, none⟩)]] 46)).heap[k]? = some o := fun k o hn hk => by
              have hk2 : w2.heap[k]? = some o := (HB2.out.block k (Array.getElem?_eq_some_iff.1 hk).1).trans hk
              exact (vb.block k (Array.getElem?_eq_some_iff.1 hk2).1).trans (blk_far hk2 (p := ⟨bg, nb * 11 + 7, none⟩) hn _)
            have hr := HROW.out.set hqn 0
            rw [origQ HQ.out.1] at hr
            have hw : Below w.heap.size w (w2.setCell ⟨bg, nb * 11 + 7, none⟩ (.int .i64 0)) := (HB0.out.trans (HB2.out.mono (by omega))).setCell (p := ⟨bg, nb * 11 + 7, none⟩) (by show w.heap.size ≤ bg; omega) _
            exact ⟨hr.keep (vb.block bg hgl2), hall _ _ (by omega) HD.out.1, hall _ _ (by omega) HD.out.2.1, hall _ _ (by omega) HD.out.2.2, v0, v1, hw.trans (vb.mono (by have := hw.size; rw [e2] at this; exact this))⟩
          have HSW : Hid ((((w2.setCell ⟨bg, nb * 11 + 7, none⟩ (.int .i64 0)).alloc (.cells #[.slice (some ⟨bg, 0, none⟩) l.length c2] 22)).alloc (.cells #[.func (.func 23) #[] #[.pointer (some ⟨w.heap.size, 0, none⟩), .pointer (some ⟨w.heap.size + 1, 0, none⟩)]] 46)).heap.size = w2.heap.size + 2) := vsz
          change Calls _ _ _ (((w2.setCell ⟨bg, nb * 11 + 7, none⟩ (.int .i64 0)).alloc (.cells #[.slice (some ⟨bg, 0, none⟩) l.length c2] 22)).alloc (.cells #[.func (.func 23) #[] #[.pointer (some ⟨w.heap.size, 0, none⟩), .pointer (some ⟨w.heap.size + 1, 0, none⟩)]] 46)) _
          generalize (((w2.setCell ⟨bg, nb * 11 + 7, none⟩ (.int .i64 0)).alloc (.cells #[.slice (some ⟨bg, 0, none⟩) l.length c2] 22)).alloc (.cells #[.func (.func 23) #[] #[.pointer (some ⟨w.heap.size, 0, none⟩), .pointer (some ⟨w.heap.size + 1, 0, none⟩)]] 46)) = W4 at HMEM HSW ⊢
          have HBG : Hid (w.heap.size + 2 < bg ∧ bg < w2.heap.size) := by
            have hbz := HSZ.out
            have hbs := HB.out.size
            exact ⟨by omega, hgl2⟩
          obtain ⟨s, hs⟩ : ∃ s, w2.heap.size = s := ⟨_, rfl⟩
          rw [hs] at HMEM HSW HBG ⊢
          clear u0 u1 usz ub HROW3 HROW HCP x11 x7 z7 hne hgl2 hbg1 hbg2 hs HB2 e2 v0 v1 vsz vb
          refine (back_any _ _ _ _).mono ?_
          rintro e w' ⟨rfl, rfl⟩
          rw [HSW.out]
          have HBX : Hid ((W4.alloc (.cells #[.slice (some ⟨bg, 0, none⟩) nb c2] 22)).heap[s + 2]? = some (.cells #[.slice (some ⟨bg, 0, none⟩) nb c2] 22 (0, 0))) := by
            have := blk_new W4 (.cells #[.slice (some ⟨bg, 0, none⟩) nb c2] 22)
            rw [HSW.out] at this
            exact this
          have HMEM5 : Hid (ColMem w A l.length c B g.length d s bg c2 Q (updI (origY l) nb 0) (W4.alloc (.cells #[.slice (some ⟨bg, 0, none⟩) nb c2] 22))) := ColMem.own (β := Unit) (E := w.heap.size) (Y := fun _ => updI (origY l) nb 0) (Nat.le_refl _) () W4 _ none HMEM.out (World.grownBy_alloc _ _ none) (fun r e => by cases e)
          have HSW5 : Hid ((W4.alloc (.cells #[.slice (some ⟨bg, 0, none⟩) nb c2] 22)).heap.size = s + 3) := by show _ = _; rw [World.size_alloc, HSW.out]
          generalize W4.alloc (.cells #[.slice (some ⟨bg, 0, none⟩) nb c2] 22) = W5 at HBX HMEM5 HSW5 ⊢
          clear HMEM HSW
          go_wp2_with fail
          have hql : Q.length = l.length := by have := congrArg List.length HQ.out.1; rw [List.length_map] at this; exact this
          have hws : w.heap.size + 2 < s := by have := HBG.out; omega
          have hst : SeqStopsK Fence.wide (4 - 1) Try.prog 37 #[.pointer (some ⟨s + 2, 0, none⟩)] (bEnc Q nb) (KeepB w.heap.size (s + 2) bg Q) (fun ys => ys.map (fun x => x.val.1) = dn nb nb) (fun _ => True) nb W5 :=
            back_stops Fence.wide 3 rfl (by omega) (s + 2) w.heap.size bg nb c2 Q (by omega) (by omega) W5 HBX.out ⟨_, HMEM5.out.row⟩
          refine (wpIn_wide (n := 4)).1 ?_
          refine wpIn_rangeFunc_ownG rfl (by omega) (gf := 37) (lb := #[.pointer (some ⟨s + 2, 0, none⟩)]) rfl trivial (enters_of Try.func37 (by kernel_rfl) rfl)
            hst (fun a b => a.trans b) (KeepB.put (by have := HSW5.out; omega) (by have := HSW5.out; omega) (by have := HSW5.out; have := HBG.out; omega)) (Below.refl _ _) (fun _ => rfl)
            (fun pre W => ColMem w A l.length c B g.length d s bg c2 Q (upF l g (updI (origY l) nb 0) (pre.map fun x => x.val.1)) W ∧ s + 3 ≤ W.heap.size)
            (fun _ _ _ => False) (OwnFrom.and (ColMem.own (by have := HSW5.out; omega)) (size_own _ _)) (fun _ _ _ _ _ hs _ _ => hs) ⟨HMEM5.out, by have := HSW5.out; omega⟩ ?a1 ?assign ?body ?done ?stop
          case assign =>
            intro l' x W K hK
            simp only [bEnc]
            gi_wp2
            exact hK
          case stop => exact fun _ _ _ _ _ _ h => h.elim
          case body =>
            rintro l' pre x W ⟨hm, hsz3⟩ hlen
            obtain ⟨⟨i, y⟩, hi⟩ := x
            have hi : i < nb := hi
            have HMM := Lib.hid hm
            have HUP := Lib.hid (upF_snoc l g (updI (origY l) nb 0) (pre.map fun x => x.val.1) i)
            generalize upF l g (updI (origY l) nb 0) (pre.map fun x => x.val.1) = Y at hm HMM HUP
            have hiq : i < Q.length := by omega
            have hiq1 : i + 1 < Q.length := by omega
            have r1 := hm.row.cell (List.getElem?_eq_getElem hiq1) (j := 7) (by omega) rfl
            have r0 := hm.row.cell (List.getElem?_eq_getElem hiq) (j := 7) (by omega) rfl
            have HLO : Hid (s + 2 < W.heap.size) := by show _ < _; omega
            have hsl : s + 1 < W.heap.size := (Array.getElem?_eq_some_iff.1 hm.s1).1
            have hbl := HBG.out
            obtain ⟨a, ha⟩ : ∃ a, Y (i + 1) = a := ⟨_, rfl⟩
            replace r1 : W.cell? ⟨bg, (i + 1) * 11 + 7, none⟩ = some (.int .i64 a) := by rw [← ha]; exact r1
            obtain ⟨a0, ha0⟩ : ∃ a0, Y i = a0 := ⟨_, rfl⟩
            replace r0 : W.cell? ⟨bg, i * 11 + 7, none⟩ = some (.int .i64 a0) := by rw [← ha0]; exact r0
            have y0 : ∀ v : Bel W.heap.size W, v.v.cell? ⟨s, 0, none⟩ = some (.slice (some ⟨bg, 0, none⟩) l.length c2) := fun v => blk_cell ((v.h.block s (by omega)).trans hm.s0) 0 _ rfl
            have y1 : ∀ v : Bel W.heap.size W, v.v.cell? ⟨s + 1, 0, none⟩ = some (.func (.func 23) #[] #[.pointer (some ⟨w.heap.size, 0, none⟩), .pointer (some ⟨w.heap.size + 1, 0, none⟩)]) := fun v => blk_cell ((v.h.block (s + 1) hsl).trans hm.s1) 0 _ rfl
            have y2 : ∀ v : Bel W.heap.size W, v.v.cell? ⟨bg, (i + 1) * 11 + 7, none⟩ = some (.int .i64 a) := fun v => (v.h.cell (p := ⟨bg, (i + 1) * 11 + 7, none⟩) (by show bg < _; omega)).trans r1
            obtain ⟨dI, hdI⟩ : ∃ dI, distI l g i = dI := ⟨_, rfl⟩
            have HCALL : Hid (∀ v : Bel W.heap.size W, Calls Try.prog 23 #[.int .i64 (i : Int), .pointer (some ⟨w.heap.size, 0, none⟩), .pointer (some ⟨w.heap.size + 1, 0, none⟩)] v.v fun e w' => e = .returned (.int .i64 dI) ∧ ∃ v : Bel W.heap.size W, w' = v.v) := fun v => by
              have hwv : Below w.heap.size w v.v := HMM.out.bel.trans (v.h.mono HMM.out.bel.size)
              refine (dist_any w.heap.size (w.heap.size + 1) A c l B d g i v.v (by omega) (by omega) HGL.out ((v.h.block _ (by omega)).trans HMM.out.b0) ((v.h.block _ (by omega)).trans HMM.out.b1) (HK.out.1.next hwv) (HK.out.2.next hwv) (HAV.out.num (by omega)).2.2.1 (HGO.out _ (by have := HGL.out; omega)) (HAV.out.num (by omega)).2.1).mono ?_
              rintro e w' ⟨rfl, n, rfl⟩
              exact ⟨by rw [hdI], ⟨v.v.drewN n, below_drewN v.h n⟩, rfl⟩
            obtain ⟨z, hz⟩ : ∃ z, IntKind.i64.wrap (a + dI) = z := ⟨_, rfl⟩
            have s1 : IntKind.i64.wrap ((i : Int) + 1) = ((i + 1 : Nat) : Int) := by rw [IntWalk.i64_in _ (by omega)]; rfl
            have HZ2 : Hid (upY l g Y i = updI Y i z) := by
              show _ = _
              unfold upY
              rw [ha, hdI, hz]
            have hin1 : i < l.length := by omega
            have hin2 : i + 1 < l.length := by omega
            clear hm r1 ha ha0 hdI
            try dsimp only
            gi_wp2_with fail
            refine wpIn_region_round2 14 _ (fun W' => ∃ v : Bel W.heap.size W, W' = v.v) (by kernel_rfl) (by kernel_rfl) (by kernel_rfl) rfl ⟨⟨_, (Below.refl _ _).drew⟩, rfl⟩ ?_
            simp only [List.take_succ_cons, List.take_zero]
            repeat (go_big_quiet_step (exact HCALL.out _))
            clear y0 y1 y2
            refine wpQuiet_nil ?_
            rintro w' ⟨v, rfl⟩
            have r0v : v.v.cell? ⟨bg, i * 11 + 7, none⟩ = some (.int .i64 a0) := (v.h.cell (p := ⟨bg, i * 11 + 7, none⟩) (by show bg < _; omega)).trans r0
            have z0v := (HMM.out.row.keep (v.h.block bg (by omega))).free (i * 11 + 7)
            refine ⟨fun _ _ => trivial, ?_⟩
            rw [Oper.semAt_eq _ _ _ (fun c h => by cases h)]
            obtain ⟨V, hV⟩ : ∃ V, V = v.v := ⟨_, rfl⟩
            rw [← hV] at r0v z0v ⊢
            simp [go_sem, r0v, z0v, Exit.inBlock]
            subst hV
            have hbl2 := HBG.out
            refine ⟨(keepsFrom_below v.h).trans ((KeepsOthers.setCell _ _ _).from _), KeepB.set v.h (by omega) HMM.out.bel.size (by have := HLO.out; omega) (by omega) (by omega) hiq z, ?_⟩
            have hmp : ((pre ++ [(⟨(i, y), hi⟩ : BEl nb)]).map fun x => x.val.1) = (pre.map fun x => x.val.1) ++ [i] := by rw [List.map_append]; rfl
            refine ⟨?_, by have := v.h.size; have := HLO.out; simp; omega⟩
            rw [hmp, HUP.out, HZ2.out]
            exact HMM.out.set v.h hiq z (by omega) (by omega)
          case done =>
            rintro D ys W hD hys ⟨hm, hsz3⟩ hDk
            have HYS : Hid (∀ i, upF l g (updI (origY l) nb 0) (ys.map fun x => x.val.1) i = if i < nb + 1 then colY l g nb i else origY l i) := fun i => by
              rw [hys, up_dn HAV.out HGO.out HGL.out (by omega) hnb nb (Nat.le_refl _)]
              by_cases e : i ≤ nb
              · rw [if_pos (by omega), if_pos (by omega)]
              · rw [if_neg (by omega), if_neg (by omega)]
            generalize upF l g (updI (origY l) nb 0) (ys.map fun x => x.val.1) = Y at hm HYS
            have HMM := Lib.hid hm
            have HDK : Hid (W.heap[D]? = some (.deferred (some [])) ∧ s + 3 ≤ D) := ⟨hDk, by have := HSW5.out; omega⟩
            clear hm hys hDk hD HBX HMEM5 HSW5 hst
            have e1 : IntKind.i64.wrap ((nb : Int) + 1) = ((nb + 1 : Nat) : Int) := by rw [IntWalk.i64_in _ (by omega)]; rfl
            go_wp2_with fail
            go_loopw [14] (fun q wx => ∃ (k : Nat) (Y : Nat → Int), nb < k ∧ k ≤ l.length ∧ q = .int .i64 (k : Int) ∧ (∀ i, Y i = if i < k then colY l g nb i else origY l i) ∧ ColMem w A l.length c B g.length d s bg c2 Q Y wx ∧ wx.heap[D]? = some (.deferred (some []))) (fun q _ => l.length - (intOf q).toNat)
            case atStart => exact ⟨nb + 1, Y, by omega, by omega, by go_num, HYS.out, HMM.out, HDK.out.1⟩
            case round =>
              obtain ⟨k, Y3, hk1, hk2, rfl, hY3, hm, hd⟩ := hrel
              rename World => wx
              have HMX := Lib.hid hm
              have HY3 := Lib.hid hY3
              have HDX := Lib.hid hd
              have x11 : wx.cell? ⟨s, 0, none⟩ = some (.slice (some ⟨bg, 0, none⟩) l.length c2) := blk_cell hm.s0 0 _ rfl
              clear hm hY3 hd
              by_cases hlt : k < l.length
              · obtain ⟨m, rfl⟩ : ∃ m, k = m + 1 := ⟨k - 1, by omega⟩
                have hbl := HBG.out
                have hm1 : m < Q.length := by omega
                have hm2 : m + 1 < Q.length := by omega
                have hYm : Y3 m = colY l g nb m := by rw [HY3.out, if_pos (by omega)]
                have hstep : colY l g nb m - distI l g m = colY l g nb (m + 1) := by unfold colY; rw [downI]; omega
                have hbd := colY_bound HAV.out HGO.out HGL.out hl hnb (i := m + 1) hlt
                obtain ⟨a, ha⟩ : ∃ a, colY l g nb m = a := ⟨_, rfl⟩
                obtain ⟨dI, hdI⟩ : ∃ dI, distI l g m = dI := ⟨_, rfl⟩
                obtain ⟨z, hz⟩ : ∃ z, colY l g nb (m + 1) = z := ⟨_, rfl⟩
                rw [ha, hdI, hz] at hstep
                rw [hz] at hbd
                have hwz : IntKind.i64.wrap (a - dI) = z := by rw [hstep]; exact IntWalk.i64_in _ (by omega)
                have r1 := HMX.out.row.cell (List.getElem?_eq_getElem hm1) (j := 7) (by omega) rfl
                replace r1 : wx.cell? ⟨bg, m * 11 + 7, none⟩ = some (.int .i64 a) := by rw [← ha, ← hYm]; exact r1
                obtain ⟨a0, ha0⟩ : ∃ a0, Y3 (m + 1) = a0 := ⟨_, rfl⟩
                have r0 := HMX.out.row.cell (List.getElem?_eq_getElem hm2) (j := 7) (by omega) rfl
                replace r0 : wx.cell? ⟨bg, (m + 1) * 11 + 7, none⟩ = some (.int .i64 a0) := by rw [← ha0]; exact r0
                have hsl : s + 1 < wx.heap.size := (Array.getElem?_eq_some_iff.1 HMX.out.s1).1
                have y0 : ∀ v : Bel wx.heap.size wx, v.v.cell? ⟨s, 0, none⟩ = some (.slice (some ⟨bg, 0, none⟩) l.length c2) := fun v => blk_cell ((v.h.block s (by omega)).trans HMX.out.s0) 0 _ rfl
                have y1 : ∀ v : Bel wx.heap.size wx, v.v.cell? ⟨s + 1, 0, none⟩ = some (.func (.func 23) #[] #[.pointer (some ⟨w.heap.size, 0, none⟩), .pointer (some ⟨w.heap.size + 1, 0, none⟩)]) := fun v => blk_cell ((v.h.block (s + 1) hsl).trans HMX.out.s1) 0 _ rfl
                have y2 : ∀ v : Bel wx.heap.size wx, v.v.cell? ⟨bg, m * 11 + 7, none⟩ = some (.int .i64 a) := fun v => (v.h.cell (p := ⟨bg, m * 11 + 7, none⟩) (by show bg < _; omega)).trans r1
                have HCALL : Hid (∀ v : Bel wx.heap.size wx, Calls Try.prog 23 #[.int .i64 (m : Int), .pointer (some ⟨w.heap.size, 0, none⟩), .pointer (some ⟨w.heap.size + 1, 0, none⟩)] v.v fun e w' => e = .returned (.int .i64 dI) ∧ ∃ v : Bel wx.heap.size wx, w' = v.v) := fun v => by
                  have hwv : Below w.heap.size w v.v := HMX.out.bel.trans (v.h.mono HMX.out.bel.size)
                  refine (dist_any w.heap.size (w.heap.size + 1) A c l B d g m v.v hlt (by omega) HGL.out ((v.h.block _ (by omega)).trans HMX.out.b0) ((v.h.block _ (by omega)).trans HMX.out.b1) (HK.out.1.next hwv) (HK.out.2.next hwv) (HAV.out.num (by omega)).2.2.1 (HGO.out _ (by have := HGL.out; omega)) (HAV.out.num hlt).2.1).mono ?_
                  rintro e w' ⟨rfl, n, rfl⟩
                  exact ⟨by rw [hdI], ⟨v.v.drewN n, below_drewN v.h n⟩, rfl⟩
                have s1 : IntKind.i64.wrap (((m + 1 : Nat) : Int) - 1) = (m : Int) := by rw [IntWalk.i64_in _ (by omega)]; omega
                have HYN : Hid (∀ i, updI Y3 (m + 1) z i = if i < m + 1 + 1 then colY l g nb i else origY l i) := fun i => by
                  unfold updI
                  by_cases e : i = m + 1
                  · rw [if_pos e, if_pos (by omega), e, hz]
                  · rw [if_neg e, HY3.out]
                    by_cases e2 : i < m + 1
                    · rw [if_pos e2, if_pos (by omega)]
                    · rw [if_neg e2, if_neg (by omega)]
                have hin1 : m < l.length := by omega
                clear r1 ha ha0 hdI hz hstep hYm x11 hbd
                have y3 := y0 ⟨wx, Below.refl _ _⟩
                go_wp2_with fail
                clear y3
                refine wp_region_tail2 15 _ (fun W' => ∃ v : Bel wx.heap.size wx, W' = v.v) (by kernel_rfl) (by kernel_rfl) (by kernel_rfl) rfl ⟨⟨_, (Below.refl _ _).drew⟩, rfl⟩ ?_
                simp only [List.take_succ_cons, List.take_zero]
                repeat (go_big_quiet_step (exact HCALL.out _))
                clear y0 y1 y2
                refine wpQuiet_nil ?_
                rintro w' ⟨v, rfl⟩
                have r0v : v.v.cell? ⟨bg, (m + 1) * 11 + 7, none⟩ = some (.int .i64 a0) := (v.h.cell (p := ⟨bg, (m + 1) * 11 + 7, none⟩) (by show bg < _; omega)).trans r0
                have z0v := (HMX.out.row.keep (v.h.block bg (by omega))).free ((m + 1) * 11 + 7)
                refine ⟨fun _ _ => trivial, ?_⟩
                rw [Oper.semAt_eq _ _ _ (fun c h => by cases h)]
                obtain ⟨V, hV⟩ : ∃ V, V = v.v := ⟨_, rfl⟩
                have HVB : Hid (Below wx.heap.size wx V) := by rw [hV]; exact v.h
                rw [← hV] at r0v z0v ⊢
                clear hV
                simp [go_sem, r0v, z0v, Exit.inBlock]
                have HMN := Lib.hid (HMX.out.set HVB.out hm2 z (by omega) (by omega))
                have HDN : Hid ((V.setCell ⟨bg, (m + 1) * 11 + 7, none⟩ (.int .i64 z)).heap[D]? = some (.deferred (some []))) := by
                  have hd3 := HDK.out.2
                  exact (Below.heap_setCell _ ⟨bg, (m + 1) * 11 + 7, none⟩ _ D (by show D ≠ bg; omega)).trans ((HVB.out.block D (Array.getElem?_eq_some_iff.1 HDX.out).1).trans HDX.out)
                clear r0v z0v
                go_wp2_with fail
                go_roundw
                case rel => exact ⟨m + 1 + 1, _, by omega, by omega, by go_num, HYN.out, HMN.out, HDN.out⟩
                case measure => simp [intOf]; omega
              · obtain rfl : k = l.length := by omega
                have HYF : Hid (∀ i, i < l.length → Y3 i = colY l g nb i) := fun i hi => by rw [HY3.out, if_pos hi]
                have hwx : s + 3 ≤ wx.heap.size := by have := HDK.out.2; have := (Array.getElem?_eq_some_iff.1 HDX.out).1; omega
                have HWX := Lib.hid hwx
                clear hwx HY3 hk1 hk2 hlt
                go_wp2_with fail
                clear x11
                go_loopw [15, 117] (fun v q wr => ∃ i : Nat, i ≤ l.length ∧ q = .int .i64 (i : Int) ∧ v = .int .i64 (maxR l i) ∧ Below wx.heap.size wx wr) (fun _ q _ => l.length - (intOf q).toNat)
                case atStart => exact ⟨0, Nat.zero_le _, rfl, rfl, Below.refl _ _⟩
                case round =>
                  obtain ⟨i, hi, rfl, rfl, hbw⟩ := hrel
                  have HBX := Lib.hid hbw
                  clear hbw
                  by_cases hlt : i < l.length
                  · have hiq : i < Q.length := by omega
                    have hnum := HAV.out.num hlt
                    have hkq : (Q[i]).t = kidAt l i := kid_of_map HQ.out.1 hiq
                    have HC : Hid (∀ j, j < 11 → wr.cell? ⟨bg, i * 11 + j, none⟩ = (bxA ((kidAt l i).atY (Y3 i)) (Q[i]).A (Q[i]).c (Q[i]).A' (Q[i]).c')[j]?) := fun j hj => by
                      have h1 := (HMX.out.row.keep (HBX.out.block bg HMX.out.row.lt))
                      have h2 : j < (bxA ((kidAt l i).atY (Y3 i)) (Q[i]).A (Q[i]).c (Q[i]).A' (Q[i]).c').size := hj
                      rw [Array.getElem?_eq_getElem h2]
                      refine h1.cell (List.getElem?_eq_getElem hiq) hj ?_
                      rw [← Array.getElem?_eq_getElem h2, ← hkq]
                      unfold Q5.cells Q5.atY
                      rw [Array.getElem?_toList]
                    have HN := Lib.hid (blk_new wr (.cells zeroBox 27))
                    have HB9 : Hid (Below wr.heap.size wr ((wr.alloc (.cells zeroBox 27)).setRow wr.heap.size (bxA ((kidAt l i).atY (Y3 i)) (Q[i]).A (Q[i]).c (Q[i]).A' (Q[i]).c'))) := below_setRow (one_below _ _) (Nat.le_refl _) _
                    have HD9 := Lib.hid (setRow_at HN.out (bxA ((kidAt l i).atY (Y3 i)) (Q[i]).A (Q[i]).c (Q[i]).A' (Q[i]).c'))
                    have f3 : ((wr.alloc (.cells zeroBox 27)).setRow wr.heap.size (bxA ((kidAt l i).atY (Y3 i)) (Q[i]).A (Q[i]).c (Q[i]).A' (Q[i]).c')).cell? ⟨wr.heap.size, 3, none⟩ = some (.int .i64 (kidAt l i).w) := blk_cell HD9.out 3 _ rfl
                    have f6 : ((wr.alloc (.cells zeroBox 27)).setRow wr.heap.size (bxA ((kidAt l i).atY (Y3 i)) (Q[i]).A (Q[i]).c (Q[i]).A' (Q[i]).c')).cell? ⟨wr.heap.size, 6, none⟩ = some (.int .i64 (kidAt l i).x) := blk_cell HD9.out 6 _ rfl
                    obtain ⟨xx, hxx⟩ : ∃ xx, (kidAt l i).x = xx := ⟨_, rfl⟩
                    obtain ⟨ww, hww⟩ : ∃ ww, (kidAt l i).w = ww := ⟨_, rfl⟩
                    obtain ⟨mm, hmm⟩ : ∃ mm, maxR l i = mm := ⟨_, rfl⟩
                    have HMX2 : Hid (maxR l (i + 1) = max mm (xx + ww)) := by show _ = _; rw [maxR, hxx, hww, hmm]
                    unfold rngL at hnum
                    rw [hxx, hww] at hnum
                    rw [hxx] at f6
                    rw [hww] at f3
                    rw [hmm]
                    have sx : IntKind.i64.wrap (xx + ww) = xx + ww := IntWalk.i64_in _ (by omega)
                    clear hnum hkq hxx hww hmm
                    go_wp2_with (first
                      | ((with_reducible refine at_load 27 ?_); go_loud (refine wpList_load_all i1 11 hi1 hy1 _ Try.underlying27 rfl rfl HC.out ?_))
                      | ((with_reducible refine at_store 27 ?_); go_loud (refine wpList_store_all i1 11 hi1 hy1 rfl rfl rfl HN.out (by decide) (bxA_one _ _ _ _ _) ?_); rw [row_all _ _ rfl rfl]; change wpList _ _ _ _ _ ((wr.alloc (.cells zeroBox 27)).setRow wr.heap.size (bxA ((kidAt l i).atY (Y3 i)) (Q[i]).A (Q[i]).c (Q[i]).A' (Q[i]).c')); generalize (wr.alloc (.cells zeroBox 27)).setRow wr.heap.size (bxA ((kidAt l i).atY (Y3 i)) (Q[i]).A (Q[i]).c (Q[i]).A' (Q[i]).c') = w9 at HB9 HD9 f3 f6 ⊢))
                    go_roundw
                    case rel => exact ⟨i + 1, by omega, by go_num, by rw [HMX2.out]; congr 1; exact (max_if _ _).symm, below_next HBX.out HB9.out⟩
                    case measure => simp [intOf]; omega
                  · obtain rfl : i = l.length := by omega
                    have hm : ColMem w A l.length c B g.length d s bg c2 Q Y3 wr := ColMem.own (β := Unit) (E := w.heap.size) (Y := fun _ => Y3) (Nat.le_refl _) () wx wr none HMX.out (grown_new HBX.out) (fun r e => by cases e)
                    have HMR := Lib.hid hm
                    have x11 : wr.cell? ⟨s, 0, none⟩ = some (.slice (some ⟨bg, 0, none⟩) l.length c2) := blk_cell hm.s0 0 _ rfl
                    clear hm
                    obtain ⟨m, hm⟩ : ∃ m, l.length - 1 = m := ⟨_, rfl⟩
                    have hml : m < l.length := by omega
                    have s1 : IntKind.i64.wrap ((l.length : Int) - 1) = (m : Int) := by rw [IntWalk.i64_in _ (by omega)]; omega
                    have hq0 : 0 < Q.length := by omega
                    have hqm : m < Q.length := by omega
                    have hkq : ∀ i (hi : i < Q.length), (Q[i]).t = kidAt l i := fun i hi => kid_of_map HQ.out.1 hi
                    have HCX : Hid (∀ W', Below wr.heap.size wr W' → (∀ j, j < 11 → W'.cell? ⟨bg, 0 + j, none⟩ = (bxA ((kidAt l 0).atY (colY l g nb 0)) (Q[0]).A (Q[0]).c (Q[0]).A' (Q[0]).c')[j]?) ∧ (∀ j, j < 11 → W'.cell? ⟨bg, m * 11 + j, none⟩ = (bxA ((kidAt l m).atY (colY l g nb m)) (Q[m]).A (Q[m]).c (Q[m]).A' (Q[m]).c')[j]?) ∧ W'.cell? ⟨s, 0, none⟩ = some (.slice (some ⟨bg, 0, none⟩) l.length c2)) := fun W' hb => by
                      have hr := HMR.out.row.keep (hb.block bg HMR.out.row.lt)
                      have hone : ∀ i (hi : i < Q.length), i < l.length → ∀ j, j < 11 → W'.cell? ⟨bg, i * 11 + j, none⟩ = (bxA ((kidAt l i).atY (colY l g nb i)) (Q[i]).A (Q[i]).c (Q[i]).A' (Q[i]).c')[j]? := fun i hi hl2 j hj => by
                        have h2 : j < (bxA ((kidAt l i).atY (colY l g nb i)) (Q[i]).A (Q[i]).c (Q[i]).A' (Q[i]).c').size := hj
                        rw [Array.getElem?_eq_getElem h2]
                        refine hr.cell (List.getElem?_eq_getElem hi) hj ?_
                        rw [← Array.getElem?_eq_getElem h2, ← hkq i hi, HYF.out i hl2]
                        unfold Q5.cells Q5.atY
                        rw [Array.getElem?_toList]
                      refine ⟨fun j hj => by have := hone 0 hq0 (by omega) j hj; rw [Nat.zero_mul] at this; exact this, hone m hqm hml, blk_cell ((hb.block s (Array.getElem?_eq_some_iff.1 HMR.out.s0).1).trans HMR.out.s0) 0 _ rfl⟩
                    obtain ⟨u0, hu0⟩ : ∃ u0, (kidAt l 0).atY (colY l g nb 0) = u0 := ⟨_, rfl⟩
                    obtain ⟨u1, hu1⟩ : ∃ u1, (kidAt l m).atY (colY l g nb m) = u1 := ⟨_, rfl⟩
                    have HU := Lib.hid (And.intro hu0 hu1)
                    rw [hu0, hu1] at HCX
                    generalize (Q[0]).A = A0 at HCX
                    generalize (Q[0]).c = k0 at HCX
                    generalize (Q[0]).A' = B0 at HCX
                    generalize (Q[0]).c' = e0 at HCX
                    generalize (Q[m]).A = A1 at HCX
                    generalize (Q[m]).c = k1 at HCX
                    generalize (Q[m]).A' = B1 at HCX
                    generalize (Q[m]).c' = e1' at HCX
                    have HS : Hid (∀ W', Below wr.heap.size wr W' → (W'.cell? ⟨s, 0, none⟩ = some (.slice (some ⟨bg, 0, none⟩) l.length c2) ∧ W'.cell? ⟨bg, 0, none⟩ = some (.int .i64 u0.k) ∧ W'.cell? ⟨bg, 1, none⟩ = some (.string u0.nm) ∧ W'.cell? ⟨bg, 2, none⟩ = some (.int .i64 u0.sz) ∧ W'.cell? ⟨bg, 3, none⟩ = some (.int .i64 u0.w) ∧ W'.cell? ⟨bg, 4, none⟩ = some (.int .i64 u0.h) ∧ W'.cell? ⟨bg, 5, none⟩ = some (.int .i64 u0.d) ∧ W'.cell? ⟨bg, 6, none⟩ = some (.int .i64 u0.x) ∧ W'.cell? ⟨bg, 7, none⟩ = some (.int .i64 u0.y) ∧ W'.cell? ⟨bg, 8, none⟩ = some (.slice A0 u0.kids.length k0) ∧ W'.cell? ⟨bg, 9, none⟩ = some (.int .i64 u0.of_) ∧ W'.cell? ⟨bg, 10, none⟩ = some (.slice B0 u0.src.length e0) ∧ W'.cell? ⟨bg, m * 11, none⟩ = some (.int .i64 u1.k) ∧ W'.cell? ⟨bg, m * 11 + 1, none⟩ = some (.string u1.nm) ∧ W'.cell? ⟨bg, m * 11 + 2, none⟩ = some (.int .i64 u1.sz) ∧ W'.cell? ⟨bg, m * 11 + 3, none⟩ = some (.int .i64 u1.w) ∧ W'.cell? ⟨bg, m * 11 + 4, none⟩ = some (.int .i64 u1.h) ∧ W'.cell? ⟨bg, m * 11 + 5, none⟩ = some (.int .i64 u1.d) ∧ W'.cell? ⟨bg, m * 11 + 6, none⟩ = some (.int .i64 u1.x) ∧ W'.cell? ⟨bg, m * 11 + 7, none⟩ = some (.int .i64 u1.y) ∧ W'.cell? ⟨bg, m * 11 + 8, none⟩ = some (.slice A1 u1.kids.length k1) ∧ W'.cell? ⟨bg, m * 11 + 9, none⟩ = some (.int .i64 u1.of_) ∧ W'.cell? ⟨bg, m * 11 + 10, none⟩ = some (.slice B1 u1.src.length e1'))) := fun W' hb => by
                      obtain ⟨h0, h1, h2⟩ := HCX.out W' hb
                      exact ⟨h2, h0 0 (by omega), h0 1 (by omega), h0 2 (by omega), h0 3 (by omega), h0 4 (by omega), h0 5 (by omega), h0 6 (by omega), h0 7 (by omega), h0 8 (by omega), h0 9 (by omega), h0 10 (by omega), h1 0 (by omega), h1 1 (by omega), h1 2 (by omega), h1 3 (by omega), h1 4 (by omega), h1 5 (by omega), h1 6 (by omega), h1 7 (by omega), h1 8 (by omega), h1 9 (by omega), h1 10 (by omega)⟩
                    have hl0 : 0 < l.length := by omega
                    have HMV : Hid (∀ i, i < (movedY l (colY l g nb)).length → fitB (kidAt (movedY l (colY l g nb)) i)) := fun i hi => by
                      rw [movedY_len] at hi
                      rw [movedY_at hi]
                      exact atY_fit (proper_fit _ (HAV.out i hi).1) _
                    obtain ⟨gb, go, rfl, _, hgb, hgc⟩ := HK.out.2 (by have := HGL.out; omega)
                    have hg0 := hgc 0 (by have := HGL.out; omega)
                    obtain ⟨g0, hg0e⟩ : ∃ g0, lAt g 0 = g0 := ⟨_, rfl⟩
                    rw [hg0e] at hg0
                    have HG0 : Hid (w.cell? ⟨gb, go, none⟩ = some (.int .i64 g0) ∧ gb < w.heap.size ∧ lAt g 0 = g0) := ⟨hg0, hgb, hg0e⟩
                    have hgr := HGO.out 0 (by have := HGL.out; omega)
                    rw [hg0e] at hgr
                    unfold rngL at hgr
                    clear hgc hg0 hg0e
                    have hn0 := HAV.out.num hl0
                    have hnm := HAV.out.num hml
                    unfold rngL at hn0 hnm
                    have hy0b := colY_bound HAV.out HGO.out HGL.out hl hnb hl0
                    have hymb := colY_bound HAV.out HGO.out HGL.out hl hnb hml
                    have eu : u0.y = colY l g nb 0 ∧ u0.h = (kidAt l 0).h ∧ u1.d = (kidAt l m).d ∧ u1.y = colY l g nb m := by
                      rw [← HU.out.1, ← HU.out.2]
                      exact ⟨rfl, rfl, rfl, rfl⟩
                    rw [← eu.1] at hy0b
                    rw [← eu.2.2.2] at hymb
                    rw [← eu.2.1] at hn0
                    rw [← eu.2.2.1] at hnm
                    have q1 : IntKind.i64.wrap (u0.y + u0.h) = u0.y + u0.h := IntWalk.i64_in _ (by omega)
                    have q2 : IntKind.i64.wrap (u0.y + u0.h + g0) = u0.y + u0.h + g0 := IntWalk.i64_in _ (by omega)
                    have q3 : IntKind.i64.wrap (u1.d - u1.y) = u1.d - u1.y := IntWalk.i64_in _ (by omega)
                    obtain ⟨tb, htb⟩ : ∃ tb, listB (maxR l l.length) (u0.y + u0.h + g0) (u1.d - u1.y) (movedY l (colY l g nb)) = tb := ⟨_, rfl⟩
                    have HTB : Hid (tb = colB l g nb ∧ tb.kids = movedY l (colY l g nb) ∧ tb.src = [] ∧ lens tb ∧ cntB tb ≤ 1001) := by
                      refine ⟨?_, ?_, ?_, ?_, ?_⟩
                      · rw [← htb, eu.1, eu.2.1, eu.2.2.1, eu.2.2.2, ← HG0.out.2.2]
                        unfold colB
                        rw [hm]
                        rfl
                      · rw [← htb]; rfl
                      · rw [← htb]; rfl
                      · rw [← htb]
                        exact ⟨Nat.zero_le _, Nat.zero_le _, by show (movedY l (colY l g nb)).length ≤ _; rw [movedY_len]; unfold lenMax; omega⟩
                      · rw [← htb, cntB_eq]
                        show 1 + cntL (movedY l (colY l g nb)) ≤ 1001
                        rw [movedY_cnt]
                        have := HCN.out
                        omega
                    have HLI : Hid (∀ W', Below wr.heap.size wr W' → Calls Try.prog 25 #[.int .i64 (maxR l l.length), .int .i64 (u0.y + u0.h + g0), .int .i64 (u1.d - u1.y), .slice (some ⟨bg, 0, none⟩) l.length c2] W' fun e w' => (∃ A2 c2, e = .returned (.agg (bxA tb A2 c2 none 0)) ∧ Kids w' W'.heap.size w'.heap.size A2 tb.kids) ∧ Below W'.heap.size W' w') := fun W' hb => by
                      have hw : Below w.heap.size w W' := HMR.out.bel.trans (hb.mono HMR.out.bel.size)
                      have hk : Kids W' 0 W'.heap.size (some ⟨bg, 0, none⟩) (movedY l (colY l g nb)) := by
                        rw [← rowY_moved HQ.out.1 HYF.out]
                        have hr := HMR.out.row.keep (hb.block bg HMR.out.row.lt)
                        exact hr.kids (Nat.zero_le _) hr.lt fun q hq => ⟨(HQ.out.2.1 q hq).1.next hw, (HQ.out.2.1 q hq).2.1.next hw, (HQ.out.2.1 q hq).2.2⟩
                      have := list_any (maxR l l.length) (u0.y + u0.h + g0) (u1.d - u1.y) (movedY l (colY l g nb)) (some ⟨bg, 0, none⟩) c2 W' HMV.out (by rw [movedY_cnt]; have := HCN.out; omega) hk
                      rw [movedY_len, htb] at this
                      rw [HTB.out.2.1]
                      exact this
                    have HVA : Hid (∀ {r : Bool} (A c W'), (r = true ↔ validB tb) → Kids W' 0 W'.heap.size A tb.kids → Calls Try.prog 20 #[.agg (bxA tb A c none 0)] W' fun e w' => e = .returned (.bool r) ∧ Below W'.heap.size W' w') := fun A c W' hr hk =>
                      bValid_any tb A c none 0 W' HTB.out.2.2.2.1 (by have := HTB.out.2.2.2.2; omega) hr hk (by rw [HTB.out.2.2.1]; exact fun h => absurd h (by simp))
                    obtain ⟨MR, hMR⟩ : ∃ MR, maxR l l.length = MR := ⟨_, rfl⟩
                    have HB6 : Hid (∀ W', Below wr.heap.size wr W' → W'.heap[w.heap.size + 2]? = some (.cells zeroBox 27 (0, 0)) ∧ Below w.heap.size w W' ∧ W'.heap[D]? = some (.deferred (some [])) ∧ W'.cell? ⟨s, 0, none⟩ = some (.slice (some ⟨bg, 0, none⟩) l.length c2) ∧ W'.cell? ⟨w.heap.size + 1, 0, none⟩ = some (.slice (some ⟨gb, go, none⟩) l.length d) ∧ W'.cell? ⟨gb, go, none⟩ = some (.int .i64 g0)) := fun W' hb => by
                      have hw : Below w.heap.size w W' := HMR.out.bel.trans (hb.mono HMR.out.bel.size)
                      have h1 := HMR.out.b1
                      rw [HGL.out] at h1
                      exact ⟨(hb.block _ (Array.getElem?_eq_some_iff.1 HMR.out.b2).1).trans HMR.out.b2, hw, (hb.block D (Nat.lt_of_lt_of_le (Array.getElem?_eq_some_iff.1 HDX.out).1 HBX.out.size)).trans ((HBX.out.block D (Array.getElem?_eq_some_iff.1 HDX.out).1).trans HDX.out), blk_cell ((hb.block s (Array.getElem?_eq_some_iff.1 HMR.out.s0).1).trans HMR.out.s0) 0 _ rfl, blk_cell ((hb.block _ (Array.getElem?_eq_some_iff.1 h1).1).trans h1) 0 _ rfl, (hw.cell (p := ⟨gb, go, none⟩) HG0.out.2.1).trans HG0.out.1⟩
                    rw [hMR] at HLI
                    have HWD := Lib.hid (Array.getElem?_eq_some_iff.1 HDX.out).1
                    clear hn0 hnm hy0b hymb eu htb hgr
                    clear HCX hkq hu0 hu1
                    go_wp2_with fail
                    go_region_held3 (fun W => W.cell? ⟨s, 0, none⟩ = some (.slice (some ⟨bg, 0, none⟩) l.length c2) ∧ W.cell? ⟨bg, 0, none⟩ = some (.int .i64 u0.k) ∧ W.cell? ⟨bg, 1, none⟩ = some (.string u0.nm) ∧ W.cell? ⟨bg, 2, none⟩ = some (.int .i64 u0.sz) ∧ W.cell? ⟨bg, 3, none⟩ = some (.int .i64 u0.w) ∧ W.cell? ⟨bg, 4, none⟩ = some (.int .i64 u0.h) ∧ W.cell? ⟨bg, 5, none⟩ = some (.int .i64 u0.d) ∧ W.cell? ⟨bg, 6, none⟩ = some (.int .i64 u0.x) ∧ W.cell? ⟨bg, 7, none⟩ = some (.int .i64 u0.y) ∧ W.cell? ⟨bg, 8, none⟩ = some (.slice A0 u0.kids.length k0) ∧ W.cell? ⟨bg, 9, none⟩ = some (.int .i64 u0.of_) ∧ W.cell? ⟨bg, 10, none⟩ = some (.slice B0 u0.src.length e0) ∧ W.cell? ⟨bg, m * 11, none⟩ = some (.int .i64 u1.k) ∧ W.cell? ⟨bg, m * 11 + 1, none⟩ = some (.string u1.nm) ∧ W.cell? ⟨bg, m * 11 + 2, none⟩ = some (.int .i64 u1.sz) ∧ W.cell? ⟨bg, m * 11 + 3, none⟩ = some (.int .i64 u1.w) ∧ W.cell? ⟨bg, m * 11 + 4, none⟩ = some (.int .i64 u1.h) ∧ W.cell? ⟨bg, m * 11 + 5, none⟩ = some (.int .i64 u1.d) ∧ W.cell? ⟨bg, m * 11 + 6, none⟩ = some (.int .i64 u1.x) ∧ W.cell? ⟨bg, m * 11 + 7, none⟩ = some (.int .i64 u1.y) ∧ W.cell? ⟨bg, m * 11 + 8, none⟩ = some (.slice A1 u1.kids.length k1) ∧ W.cell? ⟨bg, m * 11 + 9, none⟩ = some (.int .i64 u1.of_) ∧ W.cell? ⟨bg, m * 11 + 10, none⟩ = some (.slice B1 u1.src.length e1')) (first | exact HS.out _ (Below.refl _ _).drew | exact HS.out _ ((Below.refl _ _).drew.alloc (Nat.le_refl _) _) | exact HS.out _ (((Below.refl _ _).drew.alloc (Nat.le_refl _) _).alloc (by simp) _) | go_keep) (fail)
                    · go_wp2_with fail
                      obtain ⟨t0, t1, tsz, tb2⟩ := two_boxes wr (bxA u0 A0 k0 B0 e0) (bxA u1 A1 k1 B1 e1') 27 27
                      have HZ0 : Hid (((wr.alloc (.cells (bxA u0 A0 k0 B0 e0) 27)).alloc (.cells (bxA u1 A1 k1 B1 e1') 27)).drew.heap[wr.heap.size]? = some (.cells (bxA u0 A0 k0 B0 e0) 27 (0, 0))) := t0
                      have HZ1 : Hid (((wr.alloc (.cells (bxA u0 A0 k0 B0 e0) 27)).alloc (.cells (bxA u1 A1 k1 B1 e1') 27)).drew.heap[wr.heap.size + 1]? = some (.cells (bxA u1 A1 k1 B1 e1') 27 (0, 0))) := t1
                      have HZB : Hid (Below wr.heap.size wr ((wr.alloc (.cells (bxA u0 A0 k0 B0 e0) 27)).alloc (.cells (bxA u1 A1 k1 B1 e1') 27)).drew) := tb2.drew
                      clear t0 t1 tsz tb2
                      change Code.wp _ _ _ _ ((wr.alloc (.cells (bxA u0 A0 k0 B0 e0) 27)).alloc (.cells (bxA u1 A1 k1 B1 e1') 27)).drew
                      generalize ((wr.alloc (.cells (bxA u0 A0 k0 B0 e0) 27)).alloc (.cells (bxA u1 A1 k1 B1 e1') 27)).drew = wz at HZ0 HZ1 HZB ⊢
                      have HS2 : Hid (∀ W', Below wz.heap.size wz W' → (W'.cell? ⟨wr.heap.size, 7, none⟩ = some (.int .i64 u0.y) ∧ W'.cell? ⟨wr.heap.size, 4, none⟩ = some (.int .i64 u0.h) ∧ W'.cell? ⟨wr.heap.size + 1, 5, none⟩ = some (.int .i64 u1.d) ∧ W'.cell? ⟨wr.heap.size + 1, 7, none⟩ = some (.int .i64 u1.y) ∧ W'.cell? ⟨s, 0, none⟩ = some (.slice (some ⟨bg, 0, none⟩) l.length c2) ∧ W'.cell? ⟨w.heap.size + 1, 0, none⟩ = some (.slice (some ⟨gb, go, none⟩) l.length d) ∧ W'.cell? ⟨gb, go, none⟩ = some (.int .i64 g0))) := fun W' hb => by
                        have h0 := (hb.block _ (Array.getElem?_eq_some_iff.1 HZ0.out).1).trans HZ0.out
                        have h1 := (hb.block _ (Array.getElem?_eq_some_iff.1 HZ1.out).1).trans HZ1.out
                        have h2 := (HB6.out W' (below_next HZB.out hb)).2.2.2
                        exact ⟨blk_cell h0 7 _ rfl, blk_cell h0 4 _ rfl, blk_cell h1 5 _ rfl, blk_cell h1 7 _ rfl, h2.1, h2.2.1, h2.2.2⟩
                      have hbd : Below wz.heap.size wz wz.drew := (Below.refl _ _).drew
                      have hba : Below wz.heap.size wz (wz.alloc (.cells zeroBox 27)).drew := ((Below.refl _ wz).alloc (Nat.le_refl _) _).drew
                      go_region_held3 (fun W => W.cell? ⟨wr.heap.size, 7, none⟩ = some (.int .i64 u0.y) ∧ W.cell? ⟨wr.heap.size, 4, none⟩ = some (.int .i64 u0.h) ∧ W.cell? ⟨wr.heap.size + 1, 5, none⟩ = some (.int .i64 u1.d) ∧ W.cell? ⟨wr.heap.size + 1, 7, none⟩ = some (.int .i64 u1.y) ∧ W.cell? ⟨s, 0, none⟩ = some (.slice (some ⟨bg, 0, none⟩) l.length c2) ∧ W.cell? ⟨w.heap.size + 1, 0, none⟩ = some (.slice (some ⟨gb, go, none⟩) l.length d) ∧ W.cell? ⟨gb, go, none⟩ = some (.int .i64 g0)) (first | exact HS2.out _ (by with_reducible assumption) | exact HS2.out _ (hbx.alloc hbx.size _) | go_keep)
                        (first
                          | (go_at_call 25; refine (HLI.out _ (below_next HZB.out (by with_reducible assumption))).mono ?_; rintro e w20 ⟨⟨A20, c20, rfl, hk20⟩, hb20⟩; have hbx : Below wz.heap.size wz w20 := below_next (by with_reducible assumption) hb20; try (have d20 : w20.heap[wz.heap.size]? = some (.cells zeroBox 27 (0, 0)) := (hb20.block wz.heap.size (by show wz.heap.size < (wz.alloc _).heap.size; simp)).trans (blk_new wz _); have y0 : w20.cell? ⟨wz.heap.size, 0, none⟩ = some (.int .i64 0) := blk_cell d20 0 _ rfl; have z0 : w20.frozen? ⟨wz.heap.size, 0, none⟩ = false := blk_free d20 0; have x0 : (w20.setCell ⟨wz.heap.size, 0, none⟩ (.int .i64 tb.k)).heap[wz.heap.size]? = some (.cells #[.int .i64 tb.k, .string ⟨#[]⟩, .int .i64 0, .int .i64 0, .int .i64 0, .int .i64 0, .int .i64 0, .int .i64 0, .slice none 0 0, .int .i64 0, .slice none 0 0] 27 (0, 0)) := blk_set d20 0 (.int .i64 tb.k); have y1 : (w20.setCell ⟨wz.heap.size, 0, none⟩ (.int .i64 tb.k)).cell? ⟨wz.heap.size, 1, none⟩ = some (.string ⟨#[]⟩) := blk_cell x0 1 _ rfl; have z1 : (w20.setCell ⟨wz.heap.size, 0, none⟩ (.int .i64 tb.k)).frozen? ⟨wz.heap.size, 1, none⟩ = false := blk_free x0 1; have x1 : ((w20.setCell ⟨wz.heap.size, 0, none⟩ (.int .i64 tb.k)).setCell ⟨wz.heap.size, 1, none⟩ (.string tb.nm)).heap[wz.heap.size]? = some (.cells #[.int .i64 tb.k, .string tb.nm, .int .i64 0, .int .i64 0, .int .i64 0, .int .i64 0, .int .i64 0, .int .i64 0, .slice none 0 0, .int .i64 0, .slice none 0 0] 27 (0, 0)) := blk_set x0 1 (.string tb.nm); have y2 : ((w20.setCell ⟨wz.heap.size, 0, none⟩ (.int .i64 tb.k)).setCell ⟨wz.heap.size, 1, none⟩ (.string tb.nm)).cell? ⟨wz.heap.size, 2, none⟩ = some (.int .i64 0) := blk_cell x1 2 _ rfl; have z2 : ((w20.setCell ⟨wz.heap.size, 0, none⟩ (.int .i64 tb.k)).setCell ⟨wz.heap.size, 1, none⟩ (.string tb.nm)).frozen? ⟨wz.heap.size, 2, none⟩ = false := blk_free x1 2; have x2 : (((w20.setCell ⟨wz.heap.size, 0, none⟩ (.int .i64 tb.k)).setCell ⟨wz.heap.size, 1, none⟩ (.string tb.nm)).setCell ⟨wz.heap.size, 2, none⟩ (.int .i64 tb.sz)).heap[wz.heap.size]? = some (.cells #[.int .i64 tb.k, .string tb.nm, .int .i64 tb.sz, .int .i64 0, .int .i64 0, .int .i64 0, .int .i64 0, .int .i64 0, .slice none 0 0, .int .i64 0, .slice none 0 0] 27 (0, 0)) := blk_set x1 2 (.int .i64 tb.sz); have y3 : (((w20.setCell ⟨wz.heap.size, 0, none⟩ (.int .i64 tb.k)).setCell ⟨wz.heap.size, 1, none⟩ (.string tb.nm)).setCell ⟨wz.heap.size, 2, none⟩ (.int .i64 tb.sz)).cell? ⟨wz.heap.size, 3, none⟩ = some (.int .i64 0) := blk_cell x2 3 _ rfl; have z3 : (((w20.setCell ⟨wz.heap.size, 0, none⟩ (.int .i64 tb.k)).setCell ⟨wz.heap.size, 1, none⟩ (.string tb.nm)).setCell ⟨wz.heap.size, 2, none⟩ (.int .i64 tb.sz)).frozen? ⟨wz.heap.size, 3, none⟩ = false := blk_free x2 3; have x3 : ((((w20.setCell ⟨wz.heap.size, 0, none⟩ (.int .i64 tb.k)).setCell ⟨wz.heap.size, 1, none⟩ (.string tb.nm)).setCell ⟨wz.heap.size, 2, none⟩ (.int .i64 tb.sz)).setCell ⟨wz.heap.size, 3, none⟩ (.int .i64 tb.w)).heap[wz.heap.size]? = some (.cells #[.int .i64 tb.k, .string tb.nm, .int .i64 tb.sz, .int .i64 tb.w, .int .i64 0, .int .i64 0, .int .i64 0, .int .i64 0, .slice none 0 0, .int .i64 0, .slice none 0 0] 27 (0, 0)) := blk_set x2 3 (.int .i64 tb.w); have y4 : ((((w20.setCell ⟨wz.heap.size, 0, none⟩ (.int .i64 tb.k)).setCell ⟨wz.heap.size, 1, none⟩ (.string tb.nm)).setCell ⟨wz.heap.size, 2, none⟩ (.int .i64 tb.sz)).setCell ⟨wz.heap.size, 3, none⟩ (.int .i64 tb.w)).cell? ⟨wz.heap.size, 4, none⟩ = some (.int .i64 0) := blk_cell x3 4 _ rfl; have z4 : ((((w20.setCell ⟨wz.heap.size, 0, none⟩ (.int .i64 tb.k)).setCell ⟨wz.heap.size, 1, none⟩ (.string tb.nm)).setCell ⟨wz.heap.size, 2, none⟩ (.int .i64 tb.sz)).setCell ⟨wz.heap.size, 3, none⟩ (.int .i64 tb.w)).frozen? ⟨wz.heap.size, 4, none⟩ = false := blk_free x3 4; have x4 : (((((w20.setCell ⟨wz.heap.size, 0, none⟩ (.int .i64 tb.k)).setCell ⟨wz.heap.size, 1, none⟩ (.string tb.nm)).setCell ⟨wz.heap.size, 2, none⟩ (.int .i64 tb.sz)).setCell ⟨wz.heap.size, 3, none⟩ (.int .i64 tb.w)).setCell ⟨wz.heap.size, 4, none⟩ (.int .i64 tb.h)).heap[wz.heap.size]? = some (.cells #[.int .i64 tb.k, .string tb.nm, .int .i64 tb.sz, .int .i64 tb.w, .int .i64 tb.h, .int .i64 0, .int .i64 0, .int .i64 0, .slice none 0 0, .int .i64 0, .slice none 0 0] 27 (0, 0)) := blk_set x3 4 (.int .i64 tb.h); have y5 : (((((w20.setCell ⟨wz.heap.size, 0, none⟩ (.int .i64 tb.k)).setCell ⟨wz.heap.size, 1, none⟩ (.string tb.nm)).setCell ⟨wz.heap.size, 2, none⟩ (.int .i64 tb.sz)).setCell ⟨wz.heap.size, 3, none⟩ (.int .i64 tb.w)).setCell ⟨wz.heap.size, 4, none⟩ (.int .i64 tb.h)).cell? ⟨wz.heap.size, 5, none⟩ = some (.int .i64 0) := blk_cell x4 5 _ rfl; have z5 : (((((w20.setCell ⟨wz.heap.size, 0, none⟩ (.int .i64 tb.k)).setCell ⟨wz.heap.size, 1, none⟩ (.string tb.nm)).setCell ⟨wz.heap.size, 2, none⟩ (.int .i64 tb.sz)).setCell ⟨wz.heap.size, 3, none⟩ (.int .i64 tb.w)).setCell ⟨wz.heap.size, 4, none⟩ (.int .i64 tb.h)).frozen? ⟨wz.heap.size, 5, none⟩ = false := blk_free x4 5; have x5 : ((((((w20.setCell ⟨wz.heap.size, 0, none⟩ (.int .i64 tb.k)).setCell ⟨wz.heap.size, 1, none⟩ (.string tb.nm)).setCell ⟨wz.heap.size, 2, none⟩ (.int .i64 tb.sz)).setCell ⟨wz.heap.size, 3, none⟩ (.int .i64 tb.w)).setCell ⟨wz.heap.size, 4, none⟩ (.int .i64 tb.h)).setCell ⟨wz.heap.size, 5, none⟩ (.int .i64 tb.d)).heap[wz.heap.size]? = some (.cells #[.int .i64 tb.k, .string tb.nm, .int .i64 tb.sz, .int .i64 tb.w, .int .i64 tb.h, .int .i64 tb.d, .int .i64 0, .int .i64 0, .slice none 0 0, .int .i64 0, .slice none 0 0] 27 (0, 0)) := blk_set x4 5 (.int .i64 tb.d); have y6 : ((((((w20.setCell ⟨wz.heap.size, 0, none⟩ (.int .i64 tb.k)).setCell ⟨wz.heap.size, 1, none⟩ (.string tb.nm)).setCell ⟨wz.heap.size, 2, none⟩ (.int .i64 tb.sz)).setCell ⟨wz.heap.size, 3, none⟩ (.int .i64 tb.w)).setCell ⟨wz.heap.size, 4, none⟩ (.int .i64 tb.h)).setCell ⟨wz.heap.size, 5, none⟩ (.int .i64 tb.d)).cell? ⟨wz.heap.size, 6, none⟩ = some (.int .i64 0) := blk_cell x5 6 _ rfl; have z6 : ((((((w20.setCell ⟨wz.heap.size, 0, none⟩ (.int .i64 tb.k)).setCell ⟨wz.heap.size, 1, none⟩ (.string tb.nm)).setCell ⟨wz.heap.size, 2, none⟩ (.int .i64 tb.sz)).setCell ⟨wz.heap.size, 3, none⟩ (.int .i64 tb.w)).setCell ⟨wz.heap.size, 4, none⟩ (.int .i64 tb.h)).setCell ⟨wz.heap.size, 5, none⟩ (.int .i64 tb.d)).frozen? ⟨wz.heap.size, 6, none⟩ = false := blk_free x5 6; have x6 : (((((((w20.setCell ⟨wz.heap.size, 0, none⟩ (.int .i64 tb.k)).setCell ⟨wz.heap.size, 1, none⟩ (.string tb.nm)).setCell ⟨wz.heap.size, 2, none⟩ (.int .i64 tb.sz)).setCell ⟨wz.heap.size, 3, none⟩ (.int .i64 tb.w)).setCell ⟨wz.heap.size, 4, none⟩ (.int .i64 tb.h)).setCell ⟨wz.heap.size, 5, none⟩ (.int .i64 tb.d)).setCell ⟨wz.heap.size, 6, none⟩ (.int .i64 tb.x)).heap[wz.heap.size]? = some (.cells #[.int .i64 tb.k, .string tb.nm, .int .i64 tb.sz, .int .i64 tb.w, .int .i64 tb.h, .int .i64 tb.d, .int .i64 tb.x, .int .i64 0, .slice none 0 0, .int .i64 0, .slice none 0 0] 27 (0, 0)) := blk_set x5 6 (.int .i64 tb.x); have y7 : (((((((w20.setCell ⟨wz.heap.size, 0, none⟩ (.int .i64 tb.k)).setCell ⟨wz.heap.size, 1, none⟩ (.string tb.nm)).setCell ⟨wz.heap.size, 2, none⟩ (.int .i64 tb.sz)).setCell ⟨wz.heap.size, 3, none⟩ (.int .i64 tb.w)).setCell ⟨wz.heap.size, 4, none⟩ (.int .i64 tb.h)).setCell ⟨wz.heap.size, 5, none⟩ (.int .i64 tb.d)).setCell ⟨wz.heap.size, 6, none⟩ (.int .i64 tb.x)).cell? ⟨wz.heap.size, 7, none⟩ = some (.int .i64 0) := blk_cell x6 7 _ rfl; have z7 : (((((((w20.setCell ⟨wz.heap.size, 0, none⟩ (.int .i64 tb.k)).setCell ⟨wz.heap.size, 1, none⟩ (.string tb.nm)).setCell ⟨wz.heap.size, 2, none⟩ (.int .i64 tb.sz)).setCell ⟨wz.heap.size, 3, none⟩ (.int .i64 tb.w)).setCell ⟨wz.heap.size, 4, none⟩ (.int .i64 tb.h)).setCell ⟨wz.heap.size, 5, none⟩ (.int .i64 tb.d)).setCell ⟨wz.heap.size, 6, none⟩ (.int .i64 tb.x)).frozen? ⟨wz.heap.size, 7, none⟩ = false := blk_free x6 7; have x7 : ((((((((w20.setCell ⟨wz.heap.size, 0, none⟩ (.int .i64 tb.k)).setCell ⟨wz.heap.size, 1, none⟩ (.string tb.nm)).setCell ⟨wz.heap.size, 2, none⟩ (.int .i64 tb.sz)).setCell ⟨wz.heap.size, 3, none⟩ (.int .i64 tb.w)).setCell ⟨wz.heap.size, 4, none⟩ (.int .i64 tb.h)).setCell ⟨wz.heap.size, 5, none⟩ (.int .i64 tb.d)).setCell ⟨wz.heap.size, 6, none⟩ (.int .i64 tb.x)).setCell ⟨wz.heap.size, 7, none⟩ (.int .i64 tb.y)).heap[wz.heap.size]? = some (.cells #[.int .i64 tb.k, .string tb.nm, .int .i64 tb.sz, .int .i64 tb.w, .int .i64 tb.h, .int .i64 tb.d, .int .i64 tb.x, .int .i64 tb.y, .slice none 0 0, .int .i64 0, .slice none 0 0] 27 (0, 0)) := blk_set x6 7 (.int .i64 tb.y); have y8 : ((((((((w20.setCell ⟨wz.heap.size, 0, none⟩ (.int .i64 tb.k)).setCell ⟨wz.heap.size, 1, none⟩ (.string tb.nm)).setCell ⟨wz.heap.size, 2, none⟩ (.int .i64 tb.sz)).setCell ⟨wz.heap.size, 3, none⟩ (.int .i64 tb.w)).setCell ⟨wz.heap.size, 4, none⟩ (.int .i64 tb.h)).setCell ⟨wz.heap.size, 5, none⟩ (.int .i64 tb.d)).setCell ⟨wz.heap.size, 6, none⟩ (.int .i64 tb.x)).setCell ⟨wz.heap.size, 7, none⟩ (.int .i64 tb.y)).cell? ⟨wz.heap.size, 8, none⟩ = some (.slice none 0 0) := blk_cell x7 8 _ rfl; have z8 : ((((((((w20.setCell ⟨wz.heap.size, 0, none⟩ (.int .i64 tb.k)).setCell ⟨wz.heap.size, 1, none⟩ (.string tb.nm)).setCell ⟨wz.heap.size, 2, none⟩ (.int .i64 tb.sz)).setCell ⟨wz.heap.size, 3, none⟩ (.int .i64 tb.w)).setCell ⟨wz.heap.size, 4, none⟩ (.int .i64 tb.h)).setCell ⟨wz.heap.size, 5, none⟩ (.int .i64 tb.d)).setCell ⟨wz.heap.size, 6, none⟩ (.int .i64 tb.x)).setCell ⟨wz.heap.size, 7, none⟩ (.int .i64 tb.y)).frozen? ⟨wz.heap.size, 8, none⟩ = false := blk_free x7 8; have x8 : (((((((((w20.setCell ⟨wz.heap.size, 0, none⟩ (.int .i64 tb.k)).setCell ⟨wz.heap.size, 1, none⟩ (.string tb.nm)).setCell ⟨wz.heap.size, 2, none⟩ (.int .i64 tb.sz)).setCell ⟨wz.heap.size, 3, none⟩ (.int .i64 tb.w)).setCell ⟨wz.heap.size, 4, none⟩ (.int .i64 tb.h)).setCell ⟨wz.heap.size, 5, none⟩ (.int .i64 tb.d)).setCell ⟨wz.heap.size, 6, none⟩ (.int .i64 tb.x)).setCell ⟨wz.heap.size, 7, none⟩ (.int .i64 tb.y)).setCell ⟨wz.heap.size, 8, none⟩ (.slice A20 tb.kids.length c20)).heap[wz.heap.size]? = some (.cells #[.int .i64 tb.k, .string tb.nm, .int .i64 tb.sz, .int .i64 tb.w, .int .i64 tb.h, .int .i64 tb.d, .int .i64 tb.x, .int .i64 tb.y, .slice A20 tb.kids.length c20, .int .i64 0, .slice none 0 0] 27 (0, 0)) := blk_set x7 8 (.slice A20 tb.kids.length c20); have y9 : (((((((((w20.setCell ⟨wz.heap.size, 0, none⟩ (.int .i64 tb.k)).setCell ⟨wz.heap.size, 1, none⟩ (.string tb.nm)).setCell ⟨wz.heap.size, 2, none⟩ (.int .i64 tb.sz)).setCell ⟨wz.heap.size, 3, none⟩ (.int .i64 tb.w)).setCell ⟨wz.heap.size, 4, none⟩ (.int .i64 tb.h)).setCell ⟨wz.heap.size, 5, none⟩ (.int .i64 tb.d)).setCell ⟨wz.heap.size, 6, none⟩ (.int .i64 tb.x)).setCell ⟨wz.heap.size, 7, none⟩ (.int .i64 tb.y)).setCell ⟨wz.heap.size, 8, none⟩ (.slice A20 tb.kids.length c20)).cell? ⟨wz.heap.size, 9, none⟩ = some (.int .i64 0) := blk_cell x8 9 _ rfl; have z9 : (((((((((w20.setCell ⟨wz.heap.size, 0, none⟩ (.int .i64 tb.k)).setCell ⟨wz.heap.size, 1, none⟩ (.string tb.nm)).setCell ⟨wz.heap.size, 2, none⟩ (.int .i64 tb.sz)).setCell ⟨wz.heap.size, 3, none⟩ (.int .i64 tb.w)).setCell ⟨wz.heap.size, 4, none⟩ (.int .i64 tb.h)).setCell ⟨wz.heap.size, 5, none⟩ (.int .i64 tb.d)).setCell ⟨wz.heap.size, 6, none⟩ (.int .i64 tb.x)).setCell ⟨wz.heap.size, 7, none⟩ (.int .i64 tb.y)).setCell ⟨wz.heap.size, 8, none⟩ (.slice A20 tb.kids.length c20)).frozen? ⟨wz.heap.size, 9, none⟩ = false := blk_free x8 9; have x9 : ((((((((((w20.setCell ⟨wz.heap.size, 0, none⟩ (.int .i64 tb.k)).setCell ⟨wz.heap.size, 1, none⟩ (.string tb.nm)).setCell ⟨wz.heap.size, 2, none⟩ (.int .i64 tb.sz)).setCell ⟨wz.heap.size, 3, none⟩ (.int .i64 tb.w)).setCell ⟨wz.heap.size, 4, none⟩ (.int .i64 tb.h)).setCell ⟨wz.heap.size, 5, none⟩ (.int .i64 tb.d)).setCell ⟨wz.heap.size, 6, none⟩ (.int .i64 tb.x)).setCell ⟨wz.heap.size, 7, none⟩ (.int .i64 tb.y)).setCell ⟨wz.heap.size, 8, none⟩ (.slice A20 tb.kids.length c20)).setCell ⟨wz.heap.size, 9, none⟩ (.int .i64 tb.of_)).heap[wz.heap.size]? = some (.cells #[.int .i64 tb.k, .string tb.nm, .int .i64 tb.sz, .int .i64 tb.w, .int .i64 tb.h, .int .i64 tb.d, .int .i64 tb.x, .int .i64 tb.y, .slice A20 tb.kids.length c20, .int .i64 tb.of_, .slice none 0 0] 27 (0, 0)) := blk_set x8 9 (.int .i64 tb.of_); have y10 : ((((((((((w20.setCell ⟨wz.heap.size, 0, none⟩ (.int .i64 tb.k)).setCell ⟨wz.heap.size, 1, none⟩ (.string tb.nm)).setCell ⟨wz.heap.size, 2, none⟩ (.int .i64 tb.sz)).setCell ⟨wz.heap.size, 3, none⟩ (.int .i64 tb.w)).setCell ⟨wz.heap.size, 4, none⟩ (.int .i64 tb.h)).setCell ⟨wz.heap.size, 5, none⟩ (.int .i64 tb.d)).setCell ⟨wz.heap.size, 6, none⟩ (.int .i64 tb.x)).setCell ⟨wz.heap.size, 7, none⟩ (.int .i64 tb.y)).setCell ⟨wz.heap.size, 8, none⟩ (.slice A20 tb.kids.length c20)).setCell ⟨wz.heap.size, 9, none⟩ (.int .i64 tb.of_)).cell? ⟨wz.heap.size, 10, none⟩ = some (.slice none 0 0) := blk_cell x9 10 _ rfl; have z10 : ((((((((((w20.setCell ⟨wz.heap.size, 0, none⟩ (.int .i64 tb.k)).setCell ⟨wz.heap.size, 1, none⟩ (.string tb.nm)).setCell ⟨wz.heap.size, 2, none⟩ (.int .i64 tb.sz)).setCell ⟨wz.heap.size, 3, none⟩ (.int .i64 tb.w)).setCell ⟨wz.heap.size, 4, none⟩ (.int .i64 tb.h)).setCell ⟨wz.heap.size, 5, none⟩ (.int .i64 tb.d)).setCell ⟨wz.heap.size, 6, none⟩ (.int .i64 tb.x)).setCell ⟨wz.heap.size, 7, none⟩ (.int .i64 tb.y)).setCell ⟨wz.heap.size, 8, none⟩ (.slice A20 tb.kids.length c20)).setCell ⟨wz.heap.size, 9, none⟩ (.int .i64 tb.of_)).frozen? ⟨wz.heap.size, 10, none⟩ = false := blk_free x9 10; have HQ20 : Hid ((((((((((((w20.setCell ⟨wz.heap.size, 0, none⟩ (.int .i64 tb.k)).setCell ⟨wz.heap.size, 1, none⟩ (.string tb.nm)).setCell ⟨wz.heap.size, 2, none⟩ (.int .i64 tb.sz)).setCell ⟨wz.heap.size, 3, none⟩ (.int .i64 tb.w)).setCell ⟨wz.heap.size, 4, none⟩ (.int .i64 tb.h)).setCell ⟨wz.heap.size, 5, none⟩ (.int .i64 tb.d)).setCell ⟨wz.heap.size, 6, none⟩ (.int .i64 tb.x)).setCell ⟨wz.heap.size, 7, none⟩ (.int .i64 tb.y)).setCell ⟨wz.heap.size, 8, none⟩ (.slice A20 tb.kids.length c20)).setCell ⟨wz.heap.size, 9, none⟩ (.int .i64 tb.of_)).setCell ⟨wz.heap.size, 10, none⟩ (.slice none tb.src.length 0)).heap[wz.heap.size]? = some (.cells (bxA tb A20 c20 none 0) 27 (0, 0))) := blk_set x9 10 (.slice none tb.src.length 0); have hbF : Below wz.heap.size wz (((((((((((w20.setCell ⟨wz.heap.size, 0, none⟩ (.int .i64 tb.k)).setCell ⟨wz.heap.size, 1, none⟩ (.string tb.nm)).setCell ⟨wz.heap.size, 2, none⟩ (.int .i64 tb.sz)).setCell ⟨wz.heap.size, 3, none⟩ (.int .i64 tb.w)).setCell ⟨wz.heap.size, 4, none⟩ (.int .i64 tb.h)).setCell ⟨wz.heap.size, 5, none⟩ (.int .i64 tb.d)).setCell ⟨wz.heap.size, 6, none⟩ (.int .i64 tb.x)).setCell ⟨wz.heap.size, 7, none⟩ (.int .i64 tb.y)).setCell ⟨wz.heap.size, 8, none⟩ (.slice A20 tb.kids.length c20)).setCell ⟨wz.heap.size, 9, none⟩ (.int .i64 tb.of_)).setCell ⟨wz.heap.size, 10, none⟩ (.slice none tb.src.length 0)) := (Below.setCell (Below.setCell (Below.setCell (Below.setCell (Below.setCell (Below.setCell (Below.setCell (Below.setCell (Below.setCell (Below.setCell (Below.setCell hbx (p := ⟨wz.heap.size, 0, none⟩) (Nat.le_refl _) (.int .i64 tb.k)) (p := ⟨wz.heap.size, 1, none⟩) (Nat.le_refl _) (.string tb.nm)) (p := ⟨wz.heap.size, 2, none⟩) (Nat.le_refl _) (.int .i64 tb.sz)) (p := ⟨wz.heap.size, 3, none⟩) (Nat.le_refl _) (.int .i64 tb.w)) (p := ⟨wz.heap.size, 4, none⟩) (Nat.le_refl _) (.int .i64 tb.h)) (p := ⟨wz.heap.size, 5, none⟩) (Nat.le_refl _) (.int .i64 tb.d)) (p := ⟨wz.heap.size, 6, none⟩) (Nat.le_refl _) (.int .i64 tb.x)) (p := ⟨wz.heap.size, 7, none⟩) (Nat.le_refl _) (.int .i64 tb.y)) (p := ⟨wz.heap.size, 8, none⟩) (Nat.le_refl _) (.slice A20 tb.kids.length c20)) (p := ⟨wz.heap.size, 9, none⟩) (Nat.le_refl _) (.int .i64 tb.of_)) (p := ⟨wz.heap.size, 10, none⟩) (Nat.le_refl _) (.slice none tb.src.length 0)); clear d20 x0 x1 x2 x3 x4 x5 x6 x7 x8 x9)))
                      · have HQ20 : Hid ((w20.alloc (.cells (bxA tb A20 c20 none 0) 27)).heap[w20.heap.size]? = some (.cells (bxA tb A20 c20 none 0) 27 (0, 0))) := blk_new _ _
                        have HKQ : Hid (Kids (w20.alloc (.cells (bxA tb A20 c20 none 0) 27)) wr.heap.size (w20.alloc (.cells (bxA tb A20 c20 none 0) 27)).heap.size A20 tb.kids) := (hk20.next (one_below _ _)).mono HZB.out.size (Nat.le_refl _)
                        have HBQ : Hid (Below wr.heap.size wr (w20.alloc (.cells (bxA tb A20 c20 none 0) 27))) := below_next HZB.out (hbx.alloc hbx.size _)
                        clear hk20 hb20 hbx hbd hba
                        change Exit.then _ _ _ _ (w20.alloc (.cells (bxA tb A20 c20 none 0) 27))
                        generalize (w20.alloc (.cells (bxA tb A20 c20 none 0) 27)) = wq at HQ20 HKQ HBQ ⊢
                        generalize w20.heap.size = p20 at HQ20 ⊢
                        obtain ⟨r, hr⟩ := bool_of (validB tb)
                        have HR := Lib.hid hr
                        clear hr
                        have HCQ : Hid (∀ j, j < 11 → wq.cell? ⟨p20, 0 + j, none⟩ = (bxA tb A20 c20 none 0)[j]?) := fun j _ => by rw [Nat.zero_add]; exact cell_of_row _ _ _ _ _ _ HQ20.out
                        go_wp2_with ((with_reducible refine at_load 27 ?_); go_loud (refine wpList_load_all i1 11 hi1 hy1 _ Try.underlying27 rfl rfl HCQ.out ?_))
                        refine (HVA.out A20 c20 wq HR.out (HKQ.out.mono (Nat.zero_le _) (Nat.le_refl _))).mono ?_
                        rintro e w21 ⟨rfl, hb21⟩
                        have HBZ := Lib.hid (below_next HBQ.out hb21)
                        have HQ21 : Hid (w21.heap[p20]? = some (.cells (bxA tb A20 c20 none 0) 27 (0, 0))) := (hb21.block _ (Array.getElem?_eq_some_iff.1 HQ20.out).1).trans HQ20.out
                        have HK21 := Lib.hid (HKQ.out.next hb21)
                        have D6 := Lib.hid (HB6.out w21 HBZ.out).1
                        clear hb21
                        cases r with
                        | false =>
                          go_wp2_with ((with_reducible refine at_store 27 ?_); go_loud (refine wpList_store_all i1 11 hi1 hy1 rfl rfl rfl D6.out (by decide) (bxA_one zeroBx none 0 none 0) ?_); rw [row_all _ _ rfl rfl])
                          have hDs : s + 3 ≤ D := HDK.out.2
                          have hdd : (w21.setRow (w.heap.size + 2) (bxA zeroBx none 0 none 0)).heap[D]? = some (.deferred (some [])) := (setRow_other _ _ _ _ (by omega)).trans (HB6.out w21 HBZ.out).2.2.1
                          refine ⟨by simp, .inl ⟨_, _, rfl, run_takeDeferred hdd, ?_⟩⟩
                          refine ⟨_, results_cell_tmp rfl _ i1 11 hi1 hy1 _ Try.underlying27 rfl rfl (fun j _ => by rw [Nat.zero_add]; exact (cell_of_heap (World.putObj_heap_other (by omega))).trans (cell_setRow_same _ _ _ _ _ _ _ D6.out)), ?_⟩
                          refine ColPost.zero (colE_4 HAV.out HOK.out HGO.out fun h => ?_) ((below_setRow (HB6.out w21 HBZ.out).2.1 (by omega) _).trans (belowK_b (w := w) (Nat.le_refl _) _ D _ _ (by omega) hdd rfl rfl))
                          have h2 := HR.out.2 (by rw [HTB.out.1]; rw [Int.toNat_natCast] at h; exact h)
                          simp at h2
                        | true =>
                          have HVT : Hid (validB tb) := HR.out.1 rfl
                          clear HR
                          have HC21 : Hid (∀ j, j < 11 → w21.cell? ⟨p20, 0 + j, none⟩ = (bxA tb A20 c20 none 0)[j]?) := fun j _ => by rw [Nat.zero_add]; exact cell_of_row _ _ _ _ _ _ HQ21.out
                          go_wp2_with (first
                            | ((with_reducible refine at_load 27 ?_); go_loud (refine wpList_load_all i1 11 hi1 hy1 _ Try.underlying27 rfl rfl HC21.out ?_))
                            | ((with_reducible refine at_store 27 ?_); go_loud (refine wpList_store_all i1 11 hi1 hy1 rfl rfl rfl D6.out (by decide) (bxA_one tb A20 c20 none 0) ?_); rw [row_all _ _ rfl rfl]))
                          have hDs : s + 3 ≤ D := HDK.out.2
                          have hdd : (w21.setRow (w.heap.size + 2) (bxA tb A20 c20 none 0)).heap[D]? = some (.deferred (some [])) := (setRow_other _ _ _ _ (by omega)).trans (HB6.out w21 HBZ.out).2.2.1
                          refine ⟨by simp, .inl ⟨_, _, rfl, run_takeDeferred hdd, ?_⟩⟩
                          refine ⟨_, results_cell_tmp rfl _ i1 11 hi1 hy1 _ Try.underlying27 rfl rfl (fun j _ => by rw [Nat.zero_add]; exact (cell_of_heap (World.putObj_heap_other (by omega))).trans (cell_setRow_same _ _ _ _ _ _ _ D6.out)), ?_⟩
                          have h0 := colE_0 HAV.out HOK.out HGO.out (by rw [Int.toNat_natCast, ← HTB.out.1]; exact HVT.out)
                          rw [Int.toNat_natCast, ← HTB.out.1] at h0
                          unfold ColPost
                          rw [h0.1, h0.2]
                          refine ⟨⟨A20, c20, rfl, ?_⟩, ((below_setRow (HB6.out w21 HBZ.out).2.1 (by omega) _).trans (belowK_b (w := w) (Nat.le_refl _) _ D _ _ (by omega) hdd rfl rfl))⟩
                          have hDw : D < wr.heap.size := Nat.lt_of_lt_of_le HWD.out HBX.out.size
                          refine (HK21.out.same fun b o hb1 _ => ?_).mono (Nat.zero_le _) (by simp)
                          exact cell_of_heap ((World.putObj_heap_other (by omega)).trans (setRow_other _ _ _ _ (by have := HMR.out.bel.size; have := (Array.getElem?_eq_some_iff.1 HMR.out.b2).1; omega)))
                      · have HKQ : Hid (Kids (((((((((((w20.setCell ⟨wz.heap.size, 0, none⟩ (.int .i64 tb.k)).setCell ⟨wz.heap.size, 1, none⟩ (.string tb.nm)).setCell ⟨wz.heap.size, 2, none⟩ (.int .i64 tb.sz)).setCell ⟨wz.heap.size, 3, none⟩ (.int .i64 tb.w)).setCell ⟨wz.heap.size, 4, none⟩ (.int .i64 tb.h)).setCell ⟨wz.heap.size, 5, none⟩ (.int .i64 tb.d)).setCell ⟨wz.heap.size, 6, none⟩ (.int .i64 tb.x)).setCell ⟨wz.heap.size, 7, none⟩ (.int .i64 tb.y)).setCell ⟨wz.heap.size, 8, none⟩ (.slice A20 tb.kids.length c20)).setCell ⟨wz.heap.size, 9, none⟩ (.int .i64 tb.of_)).setCell ⟨wz.heap.size, 10, none⟩ (.slice none tb.src.length 0)) wr.heap.size (((((((((((w20.setCell ⟨wz.heap.size, 0, none⟩ (.int .i64 tb.k)).setCell ⟨wz.heap.size, 1, none⟩ (.string tb.nm)).setCell ⟨wz.heap.size, 2, none⟩ (.int .i64 tb.sz)).setCell ⟨wz.heap.size, 3, none⟩ (.int .i64 tb.w)).setCell ⟨wz.heap.size, 4, none⟩ (.int .i64 tb.h)).setCell ⟨wz.heap.size, 5, none⟩ (.int .i64 tb.d)).setCell ⟨wz.heap.size, 6, none⟩ (.int .i64 tb.x)).setCell ⟨wz.heap.size, 7, none⟩ (.int .i64 tb.y)).setCell ⟨wz.heap.size, 8, none⟩ (.slice A20 tb.kids.length c20)).setCell ⟨wz.heap.size, 9, none⟩ (.int .i64 tb.of_)).setCell ⟨wz.heap.size, 10, none⟩ (.slice none tb.src.length 0)).heap.size A20 tb.kids) := by
                          have hk2 : Kids w20 (wz.heap.size + 1) w20.heap.size A20 tb.kids := hk20.mono (by show wz.heap.size + 1 ≤ (wz.alloc _).heap.size; simp) (Nat.le_refl _)
                          refine (hk2.same fun b o hb1 _ => ?_).mono (by have := HZB.out.size; omega) (by simp)
                          have hn : b ≠ wz.heap.size := by omega
                          exact cell_of_heap ((Below.heap_setCell _ ⟨wz.heap.size, 10, none⟩ _ b hn).trans ((Below.heap_setCell _ ⟨wz.heap.size, 9, none⟩ _ b hn).trans ((Below.heap_setCell _ ⟨wz.heap.size, 8, none⟩ _ b hn).trans ((Below.heap_setCell _ ⟨wz.heap.size, 7, none⟩ _ b hn).trans ((Below.heap_setCell _ ⟨wz.heap.size, 6, none⟩ _ b hn).trans ((Below.heap_setCell _ ⟨wz.heap.size, 5, none⟩ _ b hn).trans ((Below.heap_setCell _ ⟨wz.heap.size, 4, none⟩ _ b hn).trans ((Below.heap_setCell _ ⟨wz.heap.size, 3, none⟩ _ b hn).trans ((Below.heap_setCell _ ⟨wz.heap.size, 2, none⟩ _ b hn).trans ((Below.heap_setCell _ ⟨wz.heap.size, 1, none⟩ _ b hn).trans (Below.heap_setCell _ ⟨wz.heap.size, 0, none⟩ _ b hn)))))))))))
                        have HBQ : Hid (Below wr.heap.size wr (((((((((((w20.setCell ⟨wz.heap.size, 0, none⟩ (.int .i64 tb.k)).setCell ⟨wz.heap.size, 1, none⟩ (.string tb.nm)).setCell ⟨wz.heap.size, 2, none⟩ (.int .i64 tb.sz)).setCell ⟨wz.heap.size, 3, none⟩ (.int .i64 tb.w)).setCell ⟨wz.heap.size, 4, none⟩ (.int .i64 tb.h)).setCell ⟨wz.heap.size, 5, none⟩ (.int .i64 tb.d)).setCell ⟨wz.heap.size, 6, none⟩ (.int .i64 tb.x)).setCell ⟨wz.heap.size, 7, none⟩ (.int .i64 tb.y)).setCell ⟨wz.heap.size, 8, none⟩ (.slice A20 tb.kids.length c20)).setCell ⟨wz.heap.size, 9, none⟩ (.int .i64 tb.of_)).setCell ⟨wz.heap.size, 10, none⟩ (.slice none tb.src.length 0))) := below_next HZB.out hbF
                        clear hk20 hb20 hbx hbd hba hbF y0 z0 y1 z1 y2 z2 y3 z3 y4 z4 y5 z5 y6 z6 y7 z7 y8 z8 y9 z9 y10 z10
                        change Exit.then _ _ _ _ (((((((((((w20.setCell ⟨wz.heap.size, 0, none⟩ (.int .i64 tb.k)).setCell ⟨wz.heap.size, 1, none⟩ (.string tb.nm)).setCell ⟨wz.heap.size, 2, none⟩ (.int .i64 tb.sz)).setCell ⟨wz.heap.size, 3, none⟩ (.int .i64 tb.w)).setCell ⟨wz.heap.size, 4, none⟩ (.int .i64 tb.h)).setCell ⟨wz.heap.size, 5, none⟩ (.int .i64 tb.d)).setCell ⟨wz.heap.size, 6, none⟩ (.int .i64 tb.x)).setCell ⟨wz.heap.size, 7, none⟩ (.int .i64 tb.y)).setCell ⟨wz.heap.size, 8, none⟩ (.slice A20 tb.kids.length c20)).setCell ⟨wz.heap.size, 9, none⟩ (.int .i64 tb.of_)).setCell ⟨wz.heap.size, 10, none⟩ (.slice none tb.src.length 0))
                        generalize (((((((((((w20.setCell ⟨wz.heap.size, 0, none⟩ (.int .i64 tb.k)).setCell ⟨wz.heap.size, 1, none⟩ (.string tb.nm)).setCell ⟨wz.heap.size, 2, none⟩ (.int .i64 tb.sz)).setCell ⟨wz.heap.size, 3, none⟩ (.int .i64 tb.w)).setCell ⟨wz.heap.size, 4, none⟩ (.int .i64 tb.h)).setCell ⟨wz.heap.size, 5, none⟩ (.int .i64 tb.d)).setCell ⟨wz.heap.size, 6, none⟩ (.int .i64 tb.x)).setCell ⟨wz.heap.size, 7, none⟩ (.int .i64 tb.y)).setCell ⟨wz.heap.size, 8, none⟩ (.slice A20 tb.kids.length c20)).setCell ⟨wz.heap.size, 9, none⟩ (.int .i64 tb.of_)).setCell ⟨wz.heap.size, 10, none⟩ (.slice none tb.src.length 0)) = wq at HQ20 HKQ HBQ ⊢
                        generalize wz.heap.size = p20 at HQ20 ⊢
                        obtain ⟨r, hr⟩ := bool_of (validB tb)
                        have HR := Lib.hid hr
                        clear hr
                        have HCQ : Hid (∀ j, j < 11 → wq.cell? ⟨p20, 0 + j, none⟩ = (bxA tb A20 c20 none 0)[j]?) := fun j _ => by rw [Nat.zero_add]; exact cell_of_row _ _ _ _ _ _ HQ20.out
                        go_wp2_with ((with_reducible refine at_load 27 ?_); go_loud (refine wpList_load_all i1 11 hi1 hy1 _ Try.underlying27 rfl rfl HCQ.out ?_))
                        refine (HVA.out A20 c20 wq HR.out (HKQ.out.mono (Nat.zero_le _) (Nat.le_refl _))).mono ?_
                        rintro e w21 ⟨rfl, hb21⟩
                        have HBZ := Lib.hid (below_next HBQ.out hb21)
                        have HQ21 : Hid (w21.heap[p20]? = some (.cells (bxA tb A20 c20 none 0) 27 (0, 0))) := (hb21.block _ (Array.getElem?_eq_some_iff.1 HQ20.out).1).trans HQ20.out
                        have HK21 := Lib.hid (HKQ.out.next hb21)
                        have D6 := Lib.hid (HB6.out w21 HBZ.out).1
                        clear hb21
                        cases r with
                        | false =>
                          go_wp2_with ((with_reducible refine at_store 27 ?_); go_loud (refine wpList_store_all i1 11 hi1 hy1 rfl rfl rfl D6.out (by decide) (bxA_one zeroBx none 0 none 0) ?_); rw [row_all _ _ rfl rfl])
                          have hDs : s + 3 ≤ D := HDK.out.2
                          have hdd : (w21.setRow (w.heap.size + 2) (bxA zeroBx none 0 none 0)).heap[D]? = some (.deferred (some [])) := (setRow_other _ _ _ _ (by omega)).trans (HB6.out w21 HBZ.out).2.2.1
                          refine ⟨by simp, .inl ⟨_, _, rfl, run_takeDeferred hdd, ?_⟩⟩
                          refine ⟨_, results_cell_tmp rfl _ i1 11 hi1 hy1 _ Try.underlying27 rfl rfl (fun j _ => by rw [Nat.zero_add]; exact (cell_of_heap (World.putObj_heap_other (by omega))).trans (cell_setRow_same _ _ _ _ _ _ _ D6.out)), ?_⟩
                          refine ColPost.zero (colE_4 HAV.out HOK.out HGO.out fun h => ?_) ((below_setRow (HB6.out w21 HBZ.out).2.1 (by omega) _).trans (belowK_b (w := w) (Nat.le_refl _) _ D _ _ (by omega) hdd rfl rfl))
                          have h2 := HR.out.2 (by rw [HTB.out.1]; rw [Int.toNat_natCast] at h; exact h)
                          simp at h2
                        | true =>
                          have HVT : Hid (validB tb) := HR.out.1 rfl
                          clear HR
                          have HC21 : Hid (∀ j, j < 11 → w21.cell? ⟨p20, 0 + j, none⟩ = (bxA tb A20 c20 none 0)[j]?) := fun j _ => by rw [Nat.zero_add]; exact cell_of_row _ _ _ _ _ _ HQ21.out
                          go_wp2_with (first
                            | ((with_reducible refine at_load 27 ?_); go_loud (refine wpList_load_all i1 11 hi1 hy1 _ Try.underlying27 rfl rfl HC21.out ?_))
                            | ((with_reducible refine at_store 27 ?_); go_loud (refine wpList_store_all i1 11 hi1 hy1 rfl rfl rfl D6.out (by decide) (bxA_one tb A20 c20 none 0) ?_); rw [row_all _ _ rfl rfl]))
                          have hDs : s + 3 ≤ D := HDK.out.2
                          have hdd : (w21.setRow (w.heap.size + 2) (bxA tb A20 c20 none 0)).heap[D]? = some (.deferred (some [])) := (setRow_other _ _ _ _ (by omega)).trans (HB6.out w21 HBZ.out).2.2.1
                          refine ⟨by simp, .inl ⟨_, _, rfl, run_takeDeferred hdd, ?_⟩⟩
                          refine ⟨_, results_cell_tmp rfl _ i1 11 hi1 hy1 _ Try.underlying27 rfl rfl (fun j _ => by rw [Nat.zero_add]; exact (cell_of_heap (World.putObj_heap_other (by omega))).trans (cell_setRow_same _ _ _ _ _ _ _ D6.out)), ?_⟩
                          have h0 := colE_0 HAV.out HOK.out HGO.out (by rw [Int.toNat_natCast, ← HTB.out.1]; exact HVT.out)
                          rw [Int.toNat_natCast, ← HTB.out.1] at h0
                          unfold ColPost
                          rw [h0.1, h0.2]
                          refine ⟨⟨A20, c20, rfl, ?_⟩, ((below_setRow (HB6.out w21 HBZ.out).2.1 (by omega) _).trans (belowK_b (w := w) (Nat.le_refl _) _ D _ _ (by omega) hdd rfl rfl))⟩
                          have hDw : D < wr.heap.size := Nat.lt_of_lt_of_le HWD.out HBX.out.size
                          refine (HK21.out.same fun b o hb1 _ => ?_).mono (Nat.zero_le _) (by simp)
                          exact cell_of_heap ((World.putObj_heap_other (by omega)).trans (setRow_other _ _ _ _ (by have := HMR.out.bel.size; have := (Array.getElem?_eq_some_iff.1 HMR.out.b2).1; omega)))
                    · go_wp2_with fail
                      obtain ⟨t0, t1, tsz, tb2⟩ := two_boxes wr (bxA u1 A1 k1 B1 e1') (bxA u0 A0 k0 B0 e0) 27 27
                      have HZ0 : Hid (((wr.alloc (.cells (bxA u1 A1 k1 B1 e1') 27)).alloc (.cells (bxA u0 A0 k0 B0 e0) 27)).drew.heap[wr.heap.size]? = some (.cells (bxA u1 A1 k1 B1 e1') 27 (0, 0))) := t0
                      have HZ1 : Hid (((wr.alloc (.cells (bxA u1 A1 k1 B1 e1') 27)).alloc (.cells (bxA u0 A0 k0 B0 e0) 27)).drew.heap[wr.heap.size + 1]? = some (.cells (bxA u0 A0 k0 B0 e0) 27 (0, 0))) := t1
                      have HZB : Hid (Below wr.heap.size wr ((wr.alloc (.cells (bxA u1 A1 k1 B1 e1') 27)).alloc (.cells (bxA u0 A0 k0 B0 e0) 27)).drew) := tb2.drew
                      clear t0 t1 tsz tb2
                      change Code.wp _ _ _ _ ((wr.alloc (.cells (bxA u1 A1 k1 B1 e1') 27)).alloc (.cells (bxA u0 A0 k0 B0 e0) 27)).drew
                      generalize ((wr.alloc (.cells (bxA u1 A1 k1 B1 e1') 27)).alloc (.cells (bxA u0 A0 k0 B0 e0) 27)).drew = wz at HZ0 HZ1 HZB ⊢
                      have HS2 : Hid (∀ W', Below wz.heap.size wz W' → (W'.cell? ⟨wr.heap.size + 1, 7, none⟩ = some (.int .i64 u0.y) ∧ W'.cell? ⟨wr.heap.size + 1, 4, none⟩ = some (.int .i64 u0.h) ∧ W'.cell? ⟨wr.heap.size, 5, none⟩ = some (.int .i64 u1.d) ∧ W'.cell? ⟨wr.heap.size, 7, none⟩ = some (.int .i64 u1.y) ∧ W'.cell? ⟨s, 0, none⟩ = some (.slice (some ⟨bg, 0, none⟩) l.length c2) ∧ W'.cell? ⟨w.heap.size + 1, 0, none⟩ = some (.slice (some ⟨gb, go, none⟩) l.length d) ∧ W'.cell? ⟨gb, go, none⟩ = some (.int .i64 g0))) := fun W' hb => by
                        have h0 := (hb.block _ (Array.getElem?_eq_some_iff.1 HZ0.out).1).trans HZ0.out
                        have h1 := (hb.block _ (Array.getElem?_eq_some_iff.1 HZ1.out).1).trans HZ1.out
                        have h2 := (HB6.out W' (below_next HZB.out hb)).2.2.2
                        exact ⟨blk_cell h1 7 _ rfl, blk_cell h1 4 _ rfl, blk_cell h0 5 _ rfl, blk_cell h0 7 _ rfl, h2.1, h2.2.1, h2.2.2⟩
                      have hbd : Below wz.heap.size wz wz.drew := (Below.refl _ _).drew
                      have hba : Below wz.heap.size wz (wz.alloc (.cells zeroBox 27)).drew := ((Below.refl _ wz).alloc (Nat.le_refl _) _).drew
                      go_region_held3 (fun W => W.cell? ⟨wr.heap.size + 1, 7, none⟩ = some (.int .i64 u0.y) ∧ W.cell? ⟨wr.heap.size + 1, 4, none⟩ = some (.int .i64 u0.h) ∧ W.cell? ⟨wr.heap.size, 5, none⟩ = some (.int .i64 u1.d) ∧ W.cell? ⟨wr.heap.size, 7, none⟩ = some (.int .i64 u1.y) ∧ W.cell? ⟨s, 0, none⟩ = some (.slice (some ⟨bg, 0, none⟩) l.length c2) ∧ W.cell? ⟨w.heap.size + 1, 0, none⟩ = some (.slice (some ⟨gb, go, none⟩) l.length d) ∧ W.cell? ⟨gb, go, none⟩ = some (.int .i64 g0)) (first | exact HS2.out _ (by with_reducible assumption) | exact HS2.out _ (hbx.alloc hbx.size _) | go_keep)
                        (first
                          | (go_at_call 25; refine (HLI.out _ (below_next HZB.out (by with_reducible assumption))).mono ?_; rintro e w20 ⟨⟨A20, c20, rfl, hk20⟩, hb20⟩; have hbx : Below wz.heap.size wz w20 := below_next (by with_reducible assumption) hb20; try (have d20 : w20.heap[wz.heap.size]? = some (.cells zeroBox 27 (0, 0)) := (hb20.block wz.heap.size (by show wz.heap.size < (wz.alloc _).heap.size; simp)).trans (blk_new wz _); have y0 : w20.cell? ⟨wz.heap.size, 0, none⟩ = some (.int .i64 0) := blk_cell d20 0 _ rfl; have z0 : w20.frozen? ⟨wz.heap.size, 0, none⟩ = false := blk_free d20 0; have x0 : (w20.setCell ⟨wz.heap.size, 0, none⟩ (.int .i64 tb.k)).heap[wz.heap.size]? = some (.cells #[.int .i64 tb.k, .string ⟨#[]⟩, .int .i64 0, .int .i64 0, .int .i64 0, .int .i64 0, .int .i64 0, .int .i64 0, .slice none 0 0, .int .i64 0, .slice none 0 0] 27 (0, 0)) := blk_set d20 0 (.int .i64 tb.k); have y1 : (w20.setCell ⟨wz.heap.size, 0, none⟩ (.int .i64 tb.k)).cell? ⟨wz.heap.size, 1, none⟩ = some (.string ⟨#[]⟩) := blk_cell x0 1 _ rfl; have z1 : (w20.setCell ⟨wz.heap.size, 0, none⟩ (.int .i64 tb.k)).frozen? ⟨wz.heap.size, 1, none⟩ = false := blk_free x0 1; have x1 : ((w20.setCell ⟨wz.heap.size, 0, none⟩ (.int .i64 tb.k)).setCell ⟨wz.heap.size, 1, none⟩ (.string tb.nm)).heap[wz.heap.size]? = some (.cells #[.int .i64 tb.k, .string tb.nm, .int .i64 0, .int .i64 0, .int .i64 0, .int .i64 0, .int .i64 0, .int .i64 0, .slice none 0 0, .int .i64 0, .slice none 0 0] 27 (0, 0)) := blk_set x0 1 (.string tb.nm); have y2 : ((w20.setCell ⟨wz.heap.size, 0, none⟩ (.int .i64 tb.k)).setCell ⟨wz.heap.size, 1, none⟩ (.string tb.nm)).cell? ⟨wz.heap.size, 2, none⟩ = some (.int .i64 0) := blk_cell x1 2 _ rfl; have z2 : ((w20.setCell ⟨wz.heap.size, 0, none⟩ (.int .i64 tb.k)).setCell ⟨wz.heap.size, 1, none⟩ (.string tb.nm)).frozen? ⟨wz.heap.size, 2, none⟩ = false := blk_free x1 2; have x2 : (((w20.setCell ⟨wz.heap.size, 0, none⟩ (.int .i64 tb.k)).setCell ⟨wz.heap.size, 1, none⟩ (.string tb.nm)).setCell ⟨wz.heap.size, 2, none⟩ (.int .i64 tb.sz)).heap[wz.heap.size]? = some (.cells #[.int .i64 tb.k, .string tb.nm, .int .i64 tb.sz, .int .i64 0, .int .i64 0, .int .i64 0, .int .i64 0, .int .i64 0, .slice none 0 0, .int .i64 0, .slice none 0 0] 27 (0, 0)) := blk_set x1 2 (.int .i64 tb.sz); have y3 : (((w20.setCell ⟨wz.heap.size, 0, none⟩ (.int .i64 tb.k)).setCell ⟨wz.heap.size, 1, none⟩ (.string tb.nm)).setCell ⟨wz.heap.size, 2, none⟩ (.int .i64 tb.sz)).cell? ⟨wz.heap.size, 3, none⟩ = some (.int .i64 0) := blk_cell x2 3 _ rfl; have z3 : (((w20.setCell ⟨wz.heap.size, 0, none⟩ (.int .i64 tb.k)).setCell ⟨wz.heap.size, 1, none⟩ (.string tb.nm)).setCell ⟨wz.heap.size, 2, none⟩ (.int .i64 tb.sz)).frozen? ⟨wz.heap.size, 3, none⟩ = false := blk_free x2 3; have x3 : ((((w20.setCell ⟨wz.heap.size, 0, none⟩ (.int .i64 tb.k)).setCell ⟨wz.heap.size, 1, none⟩ (.string tb.nm)).setCell ⟨wz.heap.size, 2, none⟩ (.int .i64 tb.sz)).setCell ⟨wz.heap.size, 3, none⟩ (.int .i64 tb.w)).heap[wz.heap.size]? = some (.cells #[.int .i64 tb.k, .string tb.nm, .int .i64 tb.sz, .int .i64 tb.w, .int .i64 0, .int .i64 0, .int .i64 0, .int .i64 0, .slice none 0 0, .int .i64 0, .slice none 0 0] 27 (0, 0)) := blk_set x2 3 (.int .i64 tb.w); have y4 : ((((w20.setCell ⟨wz.heap.size, 0, none⟩ (.int .i64 tb.k)).setCell ⟨wz.heap.size, 1, none⟩ (.string tb.nm)).setCell ⟨wz.heap.size, 2, none⟩ (.int .i64 tb.sz)).setCell ⟨wz.heap.size, 3, none⟩ (.int .i64 tb.w)).cell? ⟨wz.heap.size, 4, none⟩ = some (.int .i64 0) := blk_cell x3 4 _ rfl; have z4 : ((((w20.setCell ⟨wz.heap.size, 0, none⟩ (.int .i64 tb.k)).setCell ⟨wz.heap.size, 1, none⟩ (.string tb.nm)).setCell ⟨wz.heap.size, 2, none⟩ (.int .i64 tb.sz)).setCell ⟨wz.heap.size, 3, none⟩ (.int .i64 tb.w)).frozen? ⟨wz.heap.size, 4, none⟩ = false := blk_free x3 4; have x4 : (((((w20.setCell ⟨wz.heap.size, 0, none⟩ (.int .i64 tb.k)).setCell ⟨wz.heap.size, 1, none⟩ (.string tb.nm)).setCell ⟨wz.heap.size, 2, none⟩ (.int .i64 tb.sz)).setCell ⟨wz.heap.size, 3, none⟩ (.int .i64 tb.w)).setCell ⟨wz.heap.size, 4, none⟩ (.int .i64 tb.h)).heap[wz.heap.size]? = some (.cells #[.int .i64 tb.k, .string tb.nm, .int .i64 tb.sz, .int .i64 tb.w, .int .i64 tb.h, .int .i64 0, .int .i64 0, .int .i64 0, .slice none 0 0, .int .i64 0, .slice none 0 0] 27 (0, 0)) := blk_set x3 4 (.int .i64 tb.h); have y5 : (((((w20.setCell ⟨wz.heap.size, 0, none⟩ (.int .i64 tb.k)).setCell ⟨wz.heap.size, 1, none⟩ (.string tb.nm)).setCell ⟨wz.heap.size, 2, none⟩ (.int .i64 tb.sz)).setCell ⟨wz.heap.size, 3, none⟩ (.int .i64 tb.w)).setCell ⟨wz.heap.size, 4, none⟩ (.int .i64 tb.h)).cell? ⟨wz.heap.size, 5, none⟩ = some (.int .i64 0) := blk_cell x4 5 _ rfl; have z5 : (((((w20.setCell ⟨wz.heap.size, 0, none⟩ (.int .i64 tb.k)).setCell ⟨wz.heap.size, 1, none⟩ (.string tb.nm)).setCell ⟨wz.heap.size, 2, none⟩ (.int .i64 tb.sz)).setCell ⟨wz.heap.size, 3, none⟩ (.int .i64 tb.w)).setCell ⟨wz.heap.size, 4, none⟩ (.int .i64 tb.h)).frozen? ⟨wz.heap.size, 5, none⟩ = false := blk_free x4 5; have x5 : ((((((w20.setCell ⟨wz.heap.size, 0, none⟩ (.int .i64 tb.k)).setCell ⟨wz.heap.size, 1, none⟩ (.string tb.nm)).setCell ⟨wz.heap.size, 2, none⟩ (.int .i64 tb.sz)).setCell ⟨wz.heap.size, 3, none⟩ (.int .i64 tb.w)).setCell ⟨wz.heap.size, 4, none⟩ (.int .i64 tb.h)).setCell ⟨wz.heap.size, 5, none⟩ (.int .i64 tb.d)).heap[wz.heap.size]? = some (.cells #[.int .i64 tb.k, .string tb.nm, .int .i64 tb.sz, .int .i64 tb.w, .int .i64 tb.h, .int .i64 tb.d, .int .i64 0, .int .i64 0, .slice none 0 0, .int .i64 0, .slice none 0 0] 27 (0, 0)) := blk_set x4 5 (.int .i64 tb.d); have y6 : ((((((w20.setCell ⟨wz.heap.size, 0, none⟩ (.int .i64 tb.k)).setCell ⟨wz.heap.size, 1, none⟩ (.string tb.nm)).setCell ⟨wz.heap.size, 2, none⟩ (.int .i64 tb.sz)).setCell ⟨wz.heap.size, 3, none⟩ (.int .i64 tb.w)).setCell ⟨wz.heap.size, 4, none⟩ (.int .i64 tb.h)).setCell ⟨wz.heap.size, 5, none⟩ (.int .i64 tb.d)).cell? ⟨wz.heap.size, 6, none⟩ = some (.int .i64 0) := blk_cell x5 6 _ rfl; have z6 : ((((((w20.setCell ⟨wz.heap.size, 0, none⟩ (.int .i64 tb.k)).setCell ⟨wz.heap.size, 1, none⟩ (.string tb.nm)).setCell ⟨wz.heap.size, 2, none⟩ (.int .i64 tb.sz)).setCell ⟨wz.heap.size, 3, none⟩ (.int .i64 tb.w)).setCell ⟨wz.heap.size, 4, none⟩ (.int .i64 tb.h)).setCell ⟨wz.heap.size, 5, none⟩ (.int .i64 tb.d)).frozen? ⟨wz.heap.size, 6, none⟩ = false := blk_free x5 6; have x6 : (((((((w20.setCell ⟨wz.heap.size, 0, none⟩ (.int .i64 tb.k)).setCell ⟨wz.heap.size, 1, none⟩ (.string tb.nm)).setCell ⟨wz.heap.size, 2, none⟩ (.int .i64 tb.sz)).setCell ⟨wz.heap.size, 3, none⟩ (.int .i64 tb.w)).setCell ⟨wz.heap.size, 4, none⟩ (.int .i64 tb.h)).setCell ⟨wz.heap.size, 5, none⟩ (.int .i64 tb.d)).setCell ⟨wz.heap.size, 6, none⟩ (.int .i64 tb.x)).heap[wz.heap.size]? = some (.cells #[.int .i64 tb.k, .string tb.nm, .int .i64 tb.sz, .int .i64 tb.w, .int .i64 tb.h, .int .i64 tb.d, .int .i64 tb.x, .int .i64 0, .slice none 0 0, .int .i64 0, .slice none 0 0] 27 (0, 0)) := blk_set x5 6 (.int .i64 tb.x); have y7 : (((((((w20.setCell ⟨wz.heap.size, 0, none⟩ (.int .i64 tb.k)).setCell ⟨wz.heap.size, 1, none⟩ (.string tb.nm)).setCell ⟨wz.heap.size, 2, none⟩ (.int .i64 tb.sz)).setCell ⟨wz.heap.size, 3, none⟩ (.int .i64 tb.w)).setCell ⟨wz.heap.size, 4, none⟩ (.int .i64 tb.h)).setCell ⟨wz.heap.size, 5, none⟩ (.int .i64 tb.d)).setCell ⟨wz.heap.size, 6, none⟩ (.int .i64 tb.x)).cell? ⟨wz.heap.size, 7, none⟩ = some (.int .i64 0) := blk_cell x6 7 _ rfl; have z7 : (((((((w20.setCell ⟨wz.heap.size, 0, none⟩ (.int .i64 tb.k)).setCell ⟨wz.heap.size, 1, none⟩ (.string tb.nm)).setCell ⟨wz.heap.size, 2, none⟩ (.int .i64 tb.sz)).setCell ⟨wz.heap.size, 3, none⟩ (.int .i64 tb.w)).setCell ⟨wz.heap.size, 4, none⟩ (.int .i64 tb.h)).setCell ⟨wz.heap.size, 5, none⟩ (.int .i64 tb.d)).setCell ⟨wz.heap.size, 6, none⟩ (.int .i64 tb.x)).frozen? ⟨wz.heap.size, 7, none⟩ = false := blk_free x6 7; have x7 : ((((((((w20.setCell ⟨wz.heap.size, 0, none⟩ (.int .i64 tb.k)).setCell ⟨wz.heap.size, 1, none⟩ (.string tb.nm)).setCell ⟨wz.heap.size, 2, none⟩ (.int .i64 tb.sz)).setCell ⟨wz.heap.size, 3, none⟩ (.int .i64 tb.w)).setCell ⟨wz.heap.size, 4, none⟩ (.int .i64 tb.h)).setCell ⟨wz.heap.size, 5, none⟩ (.int .i64 tb.d)).setCell ⟨wz.heap.size, 6, none⟩ (.int .i64 tb.x)).setCell ⟨wz.heap.size, 7, none⟩ (.int .i64 tb.y)).heap[wz.heap.size]? = some (.cells #[.int .i64 tb.k, .string tb.nm, .int .i64 tb.sz, .int .i64 tb.w, .int .i64 tb.h, .int .i64 tb.d, .int .i64 tb.x, .int .i64 tb.y, .slice none 0 0, .int .i64 0, .slice none 0 0] 27 (0, 0)) := blk_set x6 7 (.int .i64 tb.y); have y8 : ((((((((w20.setCell ⟨wz.heap.size, 0, none⟩ (.int .i64 tb.k)).setCell ⟨wz.heap.size, 1, none⟩ (.string tb.nm)).setCell ⟨wz.heap.size, 2, none⟩ (.int .i64 tb.sz)).setCell ⟨wz.heap.size, 3, none⟩ (.int .i64 tb.w)).setCell ⟨wz.heap.size, 4, none⟩ (.int .i64 tb.h)).setCell ⟨wz.heap.size, 5, none⟩ (.int .i64 tb.d)).setCell ⟨wz.heap.size, 6, none⟩ (.int .i64 tb.x)).setCell ⟨wz.heap.size, 7, none⟩ (.int .i64 tb.y)).cell? ⟨wz.heap.size, 8, none⟩ = some (.slice none 0 0) := blk_cell x7 8 _ rfl; have z8 : ((((((((w20.setCell ⟨wz.heap.size, 0, none⟩ (.int .i64 tb.k)).setCell ⟨wz.heap.size, 1, none⟩ (.string tb.nm)).setCell ⟨wz.heap.size, 2, none⟩ (.int .i64 tb.sz)).setCell ⟨wz.heap.size, 3, none⟩ (.int .i64 tb.w)).setCell ⟨wz.heap.size, 4, none⟩ (.int .i64 tb.h)).setCell ⟨wz.heap.size, 5, none⟩ (.int .i64 tb.d)).setCell ⟨wz.heap.size, 6, none⟩ (.int .i64 tb.x)).setCell ⟨wz.heap.size, 7, none⟩ (.int .i64 tb.y)).frozen? ⟨wz.heap.size, 8, none⟩ = false := blk_free x7 8; have x8 : (((((((((w20.setCell ⟨wz.heap.size, 0, none⟩ (.int .i64 tb.k)).setCell ⟨wz.heap.size, 1, none⟩ (.string tb.nm)).setCell ⟨wz.heap.size, 2, none⟩ (.int .i64 tb.sz)).setCell ⟨wz.heap.size, 3, none⟩ (.int .i64 tb.w)).setCell ⟨wz.heap.size, 4, none⟩ (.int .i64 tb.h)).setCell ⟨wz.heap.size, 5, none⟩ (.int .i64 tb.d)).setCell ⟨wz.heap.size, 6, none⟩ (.int .i64 tb.x)).setCell ⟨wz.heap.size, 7, none⟩ (.int .i64 tb.y)).setCell ⟨wz.heap.size, 8, none⟩ (.slice A20 tb.kids.length c20)).heap[wz.heap.size]? = some (.cells #[.int .i64 tb.k, .string tb.nm, .int .i64 tb.sz, .int .i64 tb.w, .int .i64 tb.h, .int .i64 tb.d, .int .i64 tb.x, .int .i64 tb.y, .slice A20 tb.kids.length c20, .int .i64 0, .slice none 0 0] 27 (0, 0)) := blk_set x7 8 (.slice A20 tb.kids.length c20); have y9 : (((((((((w20.setCell ⟨wz.heap.size, 0, none⟩ (.int .i64 tb.k)).setCell ⟨wz.heap.size, 1, none⟩ (.string tb.nm)).setCell ⟨wz.heap.size, 2, none⟩ (.int .i64 tb.sz)).setCell ⟨wz.heap.size, 3, none⟩ (.int .i64 tb.w)).setCell ⟨wz.heap.size, 4, none⟩ (.int .i64 tb.h)).setCell ⟨wz.heap.size, 5, none⟩ (.int .i64 tb.d)).setCell ⟨wz.heap.size, 6, none⟩ (.int .i64 tb.x)).setCell ⟨wz.heap.size, 7, none⟩ (.int .i64 tb.y)).setCell ⟨wz.heap.size, 8, none⟩ (.slice A20 tb.kids.length c20)).cell? ⟨wz.heap.size, 9, none⟩ = some (.int .i64 0) := blk_cell x8 9 _ rfl; have z9 : (((((((((w20.setCell ⟨wz.heap.size, 0, none⟩ (.int .i64 tb.k)).setCell ⟨wz.heap.size, 1, none⟩ (.string tb.nm)).setCell ⟨wz.heap.size, 2, none⟩ (.int .i64 tb.sz)).setCell ⟨wz.heap.size, 3, none⟩ (.int .i64 tb.w)).setCell ⟨wz.heap.size, 4, none⟩ (.int .i64 tb.h)).setCell ⟨wz.heap.size, 5, none⟩ (.int .i64 tb.d)).setCell ⟨wz.heap.size, 6, none⟩ (.int .i64 tb.x)).setCell ⟨wz.heap.size, 7, none⟩ (.int .i64 tb.y)).setCell ⟨wz.heap.size, 8, none⟩ (.slice A20 tb.kids.length c20)).frozen? ⟨wz.heap.size, 9, none⟩ = false := blk_free x8 9; have x9 : ((((((((((w20.setCell ⟨wz.heap.size, 0, none⟩ (.int .i64 tb.k)).setCell ⟨wz.heap.size, 1, none⟩ (.string tb.nm)).setCell ⟨wz.heap.size, 2, none⟩ (.int .i64 tb.sz)).setCell ⟨wz.heap.size, 3, none⟩ (.int .i64 tb.w)).setCell ⟨wz.heap.size, 4, none⟩ (.int .i64 tb.h)).setCell ⟨wz.heap.size, 5, none⟩ (.int .i64 tb.d)).setCell ⟨wz.heap.size, 6, none⟩ (.int .i64 tb.x)).setCell ⟨wz.heap.size, 7, none⟩ (.int .i64 tb.y)).setCell ⟨wz.heap.size, 8, none⟩ (.slice A20 tb.kids.length c20)).setCell ⟨wz.heap.size, 9, none⟩ (.int .i64 tb.of_)).heap[wz.heap.size]? = some (.cells #[.int .i64 tb.k, .string tb.nm, .int .i64 tb.sz, .int .i64 tb.w, .int .i64 tb.h, .int .i64 tb.d, .int .i64 tb.x, .int .i64 tb.y, .slice A20 tb.kids.length c20, .int .i64 tb.of_, .slice none 0 0] 27 (0, 0)) := blk_set x8 9 (.int .i64 tb.of_); have y10 : ((((((((((w20.setCell ⟨wz.heap.size, 0, none⟩ (.int .i64 tb.k)).setCell ⟨wz.heap.size, 1, none⟩ (.string tb.nm)).setCell ⟨wz.heap.size, 2, none⟩ (.int .i64 tb.sz)).setCell ⟨wz.heap.size, 3, none⟩ (.int .i64 tb.w)).setCell ⟨wz.heap.size, 4, none⟩ (.int .i64 tb.h)).setCell ⟨wz.heap.size, 5, none⟩ (.int .i64 tb.d)).setCell ⟨wz.heap.size, 6, none⟩ (.int .i64 tb.x)).setCell ⟨wz.heap.size, 7, none⟩ (.int .i64 tb.y)).setCell ⟨wz.heap.size, 8, none⟩ (.slice A20 tb.kids.length c20)).setCell ⟨wz.heap.size, 9, none⟩ (.int .i64 tb.of_)).cell? ⟨wz.heap.size, 10, none⟩ = some (.slice none 0 0) := blk_cell x9 10 _ rfl; have z10 : ((((((((((w20.setCell ⟨wz.heap.size, 0, none⟩ (.int .i64 tb.k)).setCell ⟨wz.heap.size, 1, none⟩ (.string tb.nm)).setCell ⟨wz.heap.size, 2, none⟩ (.int .i64 tb.sz)).setCell ⟨wz.heap.size, 3, none⟩ (.int .i64 tb.w)).setCell ⟨wz.heap.size, 4, none⟩ (.int .i64 tb.h)).setCell ⟨wz.heap.size, 5, none⟩ (.int .i64 tb.d)).setCell ⟨wz.heap.size, 6, none⟩ (.int .i64 tb.x)).setCell ⟨wz.heap.size, 7, none⟩ (.int .i64 tb.y)).setCell ⟨wz.heap.size, 8, none⟩ (.slice A20 tb.kids.length c20)).setCell ⟨wz.heap.size, 9, none⟩ (.int .i64 tb.of_)).frozen? ⟨wz.heap.size, 10, none⟩ = false := blk_free x9 10; have HQ20 : Hid ((((((((((((w20.setCell ⟨wz.heap.size, 0, none⟩ (.int .i64 tb.k)).setCell ⟨wz.heap.size, 1, none⟩ (.string tb.nm)).setCell ⟨wz.heap.size, 2, none⟩ (.int .i64 tb.sz)).setCell ⟨wz.heap.size, 3, none⟩ (.int .i64 tb.w)).setCell ⟨wz.heap.size, 4, none⟩ (.int .i64 tb.h)).setCell ⟨wz.heap.size, 5, none⟩ (.int .i64 tb.d)).setCell ⟨wz.heap.size, 6, none⟩ (.int .i64 tb.x)).setCell ⟨wz.heap.size, 7, none⟩ (.int .i64 tb.y)).setCell ⟨wz.heap.size, 8, none⟩ (.slice A20 tb.kids.length c20)).setCell ⟨wz.heap.size, 9, none⟩ (.int .i64 tb.of_)).setCell ⟨wz.heap.size, 10, none⟩ (.slice none tb.src.length 0)).heap[wz.heap.size]? = some (.cells (bxA tb A20 c20 none 0) 27 (0, 0))) := blk_set x9 10 (.slice none tb.src.length 0); have hbF : Below wz.heap.size wz (((((((((((w20.setCell ⟨wz.heap.size, 0, none⟩ (.int .i64 tb.k)).setCell ⟨wz.heap.size, 1, none⟩ (.string tb.nm)).setCell ⟨wz.heap.size, 2, none⟩ (.int .i64 tb.sz)).setCell ⟨wz.heap.size, 3, none⟩ (.int .i64 tb.w)).setCell ⟨wz.heap.size, 4, none⟩ (.int .i64 tb.h)).setCell ⟨wz.heap.size, 5, none⟩ (.int .i64 tb.d)).setCell ⟨wz.heap.size, 6, none⟩ (.int .i64 tb.x)).setCell ⟨wz.heap.size, 7, none⟩ (.int .i64 tb.y)).setCell ⟨wz.heap.size, 8, none⟩ (.slice A20 tb.kids.length c20)).setCell ⟨wz.heap.size, 9, none⟩ (.int .i64 tb.of_)).setCell ⟨wz.heap.size, 10, none⟩ (.slice none tb.src.length 0)) := (Below.setCell (Below.setCell (Below.setCell (Below.setCell (Below.setCell (Below.setCell (Below.setCell (Below.setCell (Below.setCell (Below.setCell (Below.setCell hbx (p := ⟨wz.heap.size, 0, none⟩) (Nat.le_refl _) (.int .i64 tb.k)) (p := ⟨wz.heap.size, 1, none⟩) (Nat.le_refl _) (.string tb.nm)) (p := ⟨wz.heap.size, 2, none⟩) (Nat.le_refl _) (.int .i64 tb.sz)) (p := ⟨wz.heap.size, 3, none⟩) (Nat.le_refl _) (.int .i64 tb.w)) (p := ⟨wz.heap.size, 4, none⟩) (Nat.le_refl _) (.int .i64 tb.h)) (p := ⟨wz.heap.size, 5, none⟩) (Nat.le_refl _) (.int .i64 tb.d)) (p := ⟨wz.heap.size, 6, none⟩) (Nat.le_refl _) (.int .i64 tb.x)) (p := ⟨wz.heap.size, 7, none⟩) (Nat.le_refl _) (.int .i64 tb.y)) (p := ⟨wz.heap.size, 8, none⟩) (Nat.le_refl _) (.slice A20 tb.kids.length c20)) (p := ⟨wz.heap.size, 9, none⟩) (Nat.le_refl _) (.int .i64 tb.of_)) (p := ⟨wz.heap.size, 10, none⟩) (Nat.le_refl _) (.slice none tb.src.length 0)); clear d20 x0 x1 x2 x3 x4 x5 x6 x7 x8 x9)))
                      · have HQ20 : Hid ((w20.alloc (.cells (bxA tb A20 c20 none 0) 27)).heap[w20.heap.size]? = some (.cells (bxA tb A20 c20 none 0) 27 (0, 0))) := blk_new _ _
                        have HKQ : Hid (Kids (w20.alloc (.cells (bxA tb A20 c20 none 0) 27)) wr.heap.size (w20.alloc (.cells (bxA tb A20 c20 none 0) 27)).heap.size A20 tb.kids) := (hk20.next (one_below _ _)).mono HZB.out.size (Nat.le_refl _)
                        have HBQ : Hid (Below wr.heap.size wr (w20.alloc (.cells (bxA tb A20 c20 none 0) 27))) := below_next HZB.out (hbx.alloc hbx.size _)
                        clear hk20 hb20 hbx hbd hba
                        change Exit.then _ _ _ _ (w20.alloc (.cells (bxA tb A20 c20 none 0) 27))
                        generalize (w20.alloc (.cells (bxA tb A20 c20 none 0) 27)) = wq at HQ20 HKQ HBQ ⊢
                        generalize w20.heap.size = p20 at HQ20 ⊢
                        obtain ⟨r, hr⟩ := bool_of (validB tb)
                        have HR := Lib.hid hr
                        clear hr
                        have HCQ : Hid (∀ j, j < 11 → wq.cell? ⟨p20, 0 + j, none⟩ = (bxA tb A20 c20 none 0)[j]?) := fun j _ => by rw [Nat.zero_add]; exact cell_of_row _ _ _ _ _ _ HQ20.out
                        go_wp2_with ((with_reducible refine at_load 27 ?_); go_loud (refine wpList_load_all i1 11 hi1 hy1 _ Try.underlying27 rfl rfl HCQ.out ?_))
                        refine (HVA.out A20 c20 wq HR.out (HKQ.out.mono (Nat.zero_le _) (Nat.le_refl _))).mono ?_
                        rintro e w21 ⟨rfl, hb21⟩
                        have HBZ := Lib.hid (below_next HBQ.out hb21)
                        have HQ21 : Hid (w21.heap[p20]? = some (.cells (bxA tb A20 c20 none 0) 27 (0, 0))) := (hb21.block _ (Array.getElem?_eq_some_iff.1 HQ20.out).1).trans HQ20.out
                        have HK21 := Lib.hid (HKQ.out.next hb21)
                        have D6 := Lib.hid (HB6.out w21 HBZ.out).1
                        clear hb21
                        cases r with
                        | false =>
                          go_wp2_with ((with_reducible refine at_store 27 ?_); go_loud (refine wpList_store_all i1 11 hi1 hy1 rfl rfl rfl D6.out (by decide) (bxA_one zeroBx none 0 none 0) ?_); rw [row_all _ _ rfl rfl])
                          have hDs : s + 3 ≤ D := HDK.out.2
                          have hdd : (w21.setRow (w.heap.size + 2) (bxA zeroBx none 0 none 0)).heap[D]? = some (.deferred (some [])) := (setRow_other _ _ _ _ (by omega)).trans (HB6.out w21 HBZ.out).2.2.1
                          refine ⟨by simp, .inl ⟨_, _, rfl, run_takeDeferred hdd, ?_⟩⟩
                          refine ⟨_, results_cell_tmp rfl _ i1 11 hi1 hy1 _ Try.underlying27 rfl rfl (fun j _ => by rw [Nat.zero_add]; exact (cell_of_heap (World.putObj_heap_other (by omega))).trans (cell_setRow_same _ _ _ _ _ _ _ D6.out)), ?_⟩
                          refine ColPost.zero (colE_4 HAV.out HOK.out HGO.out fun h => ?_) ((below_setRow (HB6.out w21 HBZ.out).2.1 (by omega) _).trans (belowK_b (w := w) (Nat.le_refl _) _ D _ _ (by omega) hdd rfl rfl))
                          have h2 := HR.out.2 (by rw [HTB.out.1]; rw [Int.toNat_natCast] at h; exact h)
                          simp at h2
                        | true =>
                          have HVT : Hid (validB tb) := HR.out.1 rfl
                          clear HR
                          have HC21 : Hid (∀ j, j < 11 → w21.cell? ⟨p20, 0 + j, none⟩ = (bxA tb A20 c20 none 0)[j]?) := fun j _ => by rw [Nat.zero_add]; exact cell_of_row _ _ _ _ _ _ HQ21.out
                          go_wp2_with (first
                            | ((with_reducible refine at_load 27 ?_); go_loud (refine wpList_load_all i1 11 hi1 hy1 _ Try.underlying27 rfl rfl HC21.out ?_))
                            | ((with_reducible refine at_store 27 ?_); go_loud (refine wpList_store_all i1 11 hi1 hy1 rfl rfl rfl D6.out (by decide) (bxA_one tb A20 c20 none 0) ?_); rw [row_all _ _ rfl rfl]))
                          have hDs : s + 3 ≤ D := HDK.out.2
                          have hdd : (w21.setRow (w.heap.size + 2) (bxA tb A20 c20 none 0)).heap[D]? = some (.deferred (some [])) := (setRow_other _ _ _ _ (by omega)).trans (HB6.out w21 HBZ.out).2.2.1
                          refine ⟨by simp, .inl ⟨_, _, rfl, run_takeDeferred hdd, ?_⟩⟩
                          refine ⟨_, results_cell_tmp rfl _ i1 11 hi1 hy1 _ Try.underlying27 rfl rfl (fun j _ => by rw [Nat.zero_add]; exact (cell_of_heap (World.putObj_heap_other (by omega))).trans (cell_setRow_same _ _ _ _ _ _ _ D6.out)), ?_⟩
                          have h0 := colE_0 HAV.out HOK.out HGO.out (by rw [Int.toNat_natCast, ← HTB.out.1]; exact HVT.out)
                          rw [Int.toNat_natCast, ← HTB.out.1] at h0
                          unfold ColPost
                          rw [h0.1, h0.2]
                          refine ⟨⟨A20, c20, rfl, ?_⟩, ((below_setRow (HB6.out w21 HBZ.out).2.1 (by omega) _).trans (belowK_b (w := w) (Nat.le_refl _) _ D _ _ (by omega) hdd rfl rfl))⟩
                          have hDw : D < wr.heap.size := Nat.lt_of_lt_of_le HWD.out HBX.out.size
                          refine (HK21.out.same fun b o hb1 _ => ?_).mono (Nat.zero_le _) (by simp)
                          exact cell_of_heap ((World.putObj_heap_other (by omega)).trans (setRow_other _ _ _ _ (by have := HMR.out.bel.size; have := (Array.getElem?_eq_some_iff.1 HMR.out.b2).1; omega)))
                      · have HKQ : Hid (Kids (((((((((((w20.setCell ⟨wz.heap.size, 0, none⟩ (.int .i64 tb.k)).setCell ⟨wz.heap.size, 1, none⟩ (.string tb.nm)).setCell ⟨wz.heap.size, 2, none⟩ (.int .i64 tb.sz)).setCell ⟨wz.heap.size, 3, none⟩ (.int .i64 tb.w)).setCell ⟨wz.heap.size, 4, none⟩ (.int .i64 tb.h)).setCell ⟨wz.heap.size, 5, none⟩ (.int .i64 tb.d)).setCell ⟨wz.heap.size, 6, none⟩ (.int .i64 tb.x)).setCell ⟨wz.heap.size, 7, none⟩ (.int .i64 tb.y)).setCell ⟨wz.heap.size, 8, none⟩ (.slice A20 tb.kids.length c20)).setCell ⟨wz.heap.size, 9, none⟩ (.int .i64 tb.of_)).setCell ⟨wz.heap.size, 10, none⟩ (.slice none tb.src.length 0)) wr.heap.size (((((((((((w20.setCell ⟨wz.heap.size, 0, none⟩ (.int .i64 tb.k)).setCell ⟨wz.heap.size, 1, none⟩ (.string tb.nm)).setCell ⟨wz.heap.size, 2, none⟩ (.int .i64 tb.sz)).setCell ⟨wz.heap.size, 3, none⟩ (.int .i64 tb.w)).setCell ⟨wz.heap.size, 4, none⟩ (.int .i64 tb.h)).setCell ⟨wz.heap.size, 5, none⟩ (.int .i64 tb.d)).setCell ⟨wz.heap.size, 6, none⟩ (.int .i64 tb.x)).setCell ⟨wz.heap.size, 7, none⟩ (.int .i64 tb.y)).setCell ⟨wz.heap.size, 8, none⟩ (.slice A20 tb.kids.length c20)).setCell ⟨wz.heap.size, 9, none⟩ (.int .i64 tb.of_)).setCell ⟨wz.heap.size, 10, none⟩ (.slice none tb.src.length 0)).heap.size A20 tb.kids) := by
                          have hk2 : Kids w20 (wz.heap.size + 1) w20.heap.size A20 tb.kids := hk20.mono (by show wz.heap.size + 1 ≤ (wz.alloc _).heap.size; simp) (Nat.le_refl _)
                          refine (hk2.same fun b o hb1 _ => ?_).mono (by have := HZB.out.size; omega) (by simp)
                          have hn : b ≠ wz.heap.size := by omega
                          exact cell_of_heap ((Below.heap_setCell _ ⟨wz.heap.size, 10, none⟩ _ b hn).trans ((Below.heap_setCell _ ⟨wz.heap.size, 9, none⟩ _ b hn).trans ((Below.heap_setCell _ ⟨wz.heap.size, 8, none⟩ _ b hn).trans ((Below.heap_setCell _ ⟨wz.heap.size, 7, none⟩ _ b hn).trans ((Below.heap_setCell _ ⟨wz.heap.size, 6, none⟩ _ b hn).trans ((Below.heap_setCell _ ⟨wz.heap.size, 5, none⟩ _ b hn).trans ((Below.heap_setCell _ ⟨wz.heap.size, 4, none⟩ _ b hn).trans ((Below.heap_setCell _ ⟨wz.heap.size, 3, none⟩ _ b hn).trans ((Below.heap_setCell _ ⟨wz.heap.size, 2, none⟩ _ b hn).trans ((Below.heap_setCell _ ⟨wz.heap.size, 1, none⟩ _ b hn).trans (Below.heap_setCell _ ⟨wz.heap.size, 0, none⟩ _ b hn)))))))))))
                        have HBQ : Hid (Below wr.heap.size wr (((((((((((w20.setCell ⟨wz.heap.size, 0, none⟩ (.int .i64 tb.k)).setCell ⟨wz.heap.size, 1, none⟩ (.string tb.nm)).setCell ⟨wz.heap.size, 2, none⟩ (.int .i64 tb.sz)).setCell ⟨wz.heap.size, 3, none⟩ (.int .i64 tb.w)).setCell ⟨wz.heap.size, 4, none⟩ (.int .i64 tb.h)).setCell ⟨wz.heap.size, 5, none⟩ (.int .i64 tb.d)).setCell ⟨wz.heap.size, 6, none⟩ (.int .i64 tb.x)).setCell ⟨wz.heap.size, 7, none⟩ (.int .i64 tb.y)).setCell ⟨wz.heap.size, 8, none⟩ (.slice A20 tb.kids.length c20)).setCell ⟨wz.heap.size, 9, none⟩ (.int .i64 tb.of_)).setCell ⟨wz.heap.size, 10, none⟩ (.slice none tb.src.length 0))) := below_next HZB.out hbF
                        clear hk20 hb20 hbx hbd hba hbF y0 z0 y1 z1 y2 z2 y3 z3 y4 z4 y5 z5 y6 z6 y7 z7 y8 z8 y9 z9 y10 z10
                        change Exit.then _ _ _ _ (((((((((((w20.setCell ⟨wz.heap.size, 0, none⟩ (.int .i64 tb.k)).setCell ⟨wz.heap.size, 1, none⟩ (.string tb.nm)).setCell ⟨wz.heap.size, 2, none⟩ (.int .i64 tb.sz)).setCell ⟨wz.heap.size, 3, none⟩ (.int .i64 tb.w)).setCell ⟨wz.heap.size, 4, none⟩ (.int .i64 tb.h)).setCell ⟨wz.heap.size, 5, none⟩ (.int .i64 tb.d)).setCell ⟨wz.heap.size, 6, none⟩ (.int .i64 tb.x)).setCell ⟨wz.heap.size, 7, none⟩ (.int .i64 tb.y)).setCell ⟨wz.heap.size, 8, none⟩ (.slice A20 tb.kids.length c20)).setCell ⟨wz.heap.size, 9, none⟩ (.int .i64 tb.of_)).setCell ⟨wz.heap.size, 10, none⟩ (.slice none tb.src.length 0))
                        generalize (((((((((((w20.setCell ⟨wz.heap.size, 0, none⟩ (.int .i64 tb.k)).setCell ⟨wz.heap.size, 1, none⟩ (.string tb.nm)).setCell ⟨wz.heap.size, 2, none⟩ (.int .i64 tb.sz)).setCell ⟨wz.heap.size, 3, none⟩ (.int .i64 tb.w)).setCell ⟨wz.heap.size, 4, none⟩ (.int .i64 tb.h)).setCell ⟨wz.heap.size, 5, none⟩ (.int .i64 tb.d)).setCell ⟨wz.heap.size, 6, none⟩ (.int .i64 tb.x)).setCell ⟨wz.heap.size, 7, none⟩ (.int .i64 tb.y)).setCell ⟨wz.heap.size, 8, none⟩ (.slice A20 tb.kids.length c20)).setCell ⟨wz.heap.size, 9, none⟩ (.int .i64 tb.of_)).setCell ⟨wz.heap.size, 10, none⟩ (.slice none tb.src.length 0)) = wq at HQ20 HKQ HBQ ⊢
                        generalize wz.heap.size = p20 at HQ20 ⊢
                        obtain ⟨r, hr⟩ := bool_of (validB tb)
                        have HR := Lib.hid hr
                        clear hr
                        have HCQ : Hid (∀ j, j < 11 → wq.cell? ⟨p20, 0 + j, none⟩ = (bxA tb A20 c20 none 0)[j]?) := fun j _ => by rw [Nat.zero_add]; exact cell_of_row _ _ _ _ _ _ HQ20.out
                        go_wp2_with ((with_reducible refine at_load 27 ?_); go_loud (refine wpList_load_all i1 11 hi1 hy1 _ Try.underlying27 rfl rfl HCQ.out ?_))
                        refine (HVA.out A20 c20 wq HR.out (HKQ.out.mono (Nat.zero_le _) (Nat.le_refl _))).mono ?_
                        rintro e w21 ⟨rfl, hb21⟩
                        have HBZ := Lib.hid (below_next HBQ.out hb21)
                        have HQ21 : Hid (w21.heap[p20]? = some (.cells (bxA tb A20 c20 none 0) 27 (0, 0))) := (hb21.block _ (Array.getElem?_eq_some_iff.1 HQ20.out).1).trans HQ20.out
                        have HK21 := Lib.hid (HKQ.out.next hb21)
                        have D6 := Lib.hid (HB6.out w21 HBZ.out).1
                        clear hb21
                        cases r with
                        | false =>
                          go_wp2_with ((with_reducible refine at_store 27 ?_); go_loud (refine wpList_store_all i1 11 hi1 hy1 rfl rfl rfl D6.out (by decide) (bxA_one zeroBx none 0 none 0) ?_); rw [row_all _ _ rfl rfl])
                          have hDs : s + 3 ≤ D := HDK.out.2
                          have hdd : (w21.setRow (w.heap.size + 2) (bxA zeroBx none 0 none 0)).heap[D]? = some (.deferred (some [])) := (setRow_other _ _ _ _ (by omega)).trans (HB6.out w21 HBZ.out).2.2.1
                          refine ⟨by simp, .inl ⟨_, _, rfl, run_takeDeferred hdd, ?_⟩⟩
                          refine ⟨_, results_cell_tmp rfl _ i1 11 hi1 hy1 _ Try.underlying27 rfl rfl (fun j _ => by rw [Nat.zero_add]; exact (cell_of_heap (World.putObj_heap_other (by omega))).trans (cell_setRow_same _ _ _ _ _ _ _ D6.out)), ?_⟩
                          refine ColPost.zero (colE_4 HAV.out HOK.out HGO.out fun h => ?_) ((below_setRow (HB6.out w21 HBZ.out).2.1 (by omega) _).trans (belowK_b (w := w) (Nat.le_refl _) _ D _ _ (by omega) hdd rfl rfl))
                          have h2 := HR.out.2 (by rw [HTB.out.1]; rw [Int.toNat_natCast] at h; exact h)
                          simp at h2
                        | true =>
                          have HVT : Hid (validB tb) := HR.out.1 rfl
                          clear HR
                          have HC21 : Hid (∀ j, j < 11 → w21.cell? ⟨p20, 0 + j, none⟩ = (bxA tb A20 c20 none 0)[j]?) := fun j _ => by rw [Nat.zero_add]; exact cell_of_row _ _ _ _ _ _ HQ21.out
                          go_wp2_with (first
                            | ((with_reducible refine at_load 27 ?_); go_loud (refine wpList_load_all i1 11 hi1 hy1 _ Try.underlying27 rfl rfl HC21.out ?_))
                            | ((with_reducible refine at_store 27 ?_); go_loud (refine wpList_store_all i1 11 hi1 hy1 rfl rfl rfl D6.out (by decide) (bxA_one tb A20 c20 none 0) ?_); rw [row_all _ _ rfl rfl]))
                          have hDs : s + 3 ≤ D := HDK.out.2
                          have hdd : (w21.setRow (w.heap.size + 2) (bxA tb A20 c20 none 0)).heap[D]? = some (.deferred (some [])) := (setRow_other _ _ _ _ (by omega)).trans (HB6.out w21 HBZ.out).2.2.1
                          refine ⟨by simp, .inl ⟨_, _, rfl, run_takeDeferred hdd, ?_⟩⟩
                          refine ⟨_, results_cell_tmp rfl _ i1 11 hi1 hy1 _ Try.underlying27 rfl rfl (fun j _ => by rw [Nat.zero_add]; exact (cell_of_heap (World.putObj_heap_other (by omega))).trans (cell_setRow_same _ _ _ _ _ _ _ D6.out)), ?_⟩
                          have h0 := colE_0 HAV.out HOK.out HGO.out (by rw [Int.toNat_natCast, ← HTB.out.1]; exact HVT.out)
                          rw [Int.toNat_natCast, ← HTB.out.1] at h0
                          unfold ColPost
                          rw [h0.1, h0.2]
                          refine ⟨⟨A20, c20, rfl, ?_⟩, ((below_setRow (HB6.out w21 HBZ.out).2.1 (by omega) _).trans (belowK_b (w := w) (Nat.le_refl _) _ D _ _ (by omega) hdd rfl rfl))⟩
                          have hDw : D < wr.heap.size := Nat.lt_of_lt_of_le HWD.out HBX.out.size
                          refine (HK21.out.same fun b o hb1 _ => ?_).mono (Nat.zero_le _) (by simp)
                          exact cell_of_heap ((World.putObj_heap_other (by omega)).trans (setRow_other _ _ _ _ (by have := HMR.out.bel.size; have := (Array.getElem?_eq_some_iff.1 HMR.out.b2).1; omega)))
end Go.Proofs.Ytonahgdchngabaa
