/- certificate's paragraph.sound. -/
import Derived.Test.YtkamffjncndabaaCertMake
namespace Go.Proofs.Ytkamffjncndabaa
open Go.RowKit
attribute [local go_sem] Oper.semAt_some
theorem first_bad {p : Nat → Prop} (hp : ∀ k, p k ∨ ¬ p k) : ∀ n : Nat, (∀ k, k < n → p k) ∨ ∃ m, m < n ∧ ¬ p m ∧ ∀ k, k < m → p k
  | 0 => .inl (fun k h => by omega)
  | n + 1 => by
    rcases first_bad hp n with h | ⟨m, h1, h2, h3⟩
    · rcases hp n with h4 | h4
      · left
        intro k hk
        by_cases e : k = n
        · subst e; exact h4
        · exact h k (by omega)
      · exact .inr ⟨n, by omega, h4, h⟩
    · exact .inr ⟨m, by omega, h2, h3⟩
def inR (l : List Int) (k : Nat) : Prop := -1099511627776 ≤ lAt l k ∧ lAt l k ≤ 1099511627776
theorem inR_dec (l : List Int) (k : Nat) : inR l k ∨ ¬ inR l k := by unfold inR; omega
def okPr (ps : List Pc) (wd ind : Int) (l : List Int) (x : Nat × Nat) : Prop := gG ps wd ind x.1 x.2 = true → lAt l x.1 ≤ cC ps wd ind x.1 x.2 + lAt l x.2
theorem mem_row {i j : Nat} : ∀ c, i < j → j ≤ i + c → (i, j) ∈ rowL i c
  | 0, h1, h2 => by omega
  | c + 1, h1, h2 => by
    unfold rowL
    by_cases e : j = i + 1 + c
    · subst e; simp
    · exact List.mem_append_left _ (mem_row c h1 (by omega))
theorem mem_pairs {n i j : Nat} (hij : i < j) (hj : j ≤ n) : ∀ d, d ≤ n → n - d ≤ i → (i, j) ∈ pairsL n d
  | 0, _, h => by omega
  | d + 1, hd, h => by
    unfold pairsL
    by_cases e : i = n - 1 - d
    · subst e; exact List.mem_append_right _ (mem_row _ hij (by omega))
    · exact List.mem_append_left _ (mem_pairs hij hj d (by omega) (by omega))
theorem csound_early (A A2 : Option Addr) (c c2 : Nat) (ps : List Pc) (l : List Int) (wd ind : Int) (w : World) (hm : l.length ≤ lenMax) (hps : ps.length ≤ 64) (hI : Ints w w.heap.size A2 l) (hbad : l.length ≠ ps.length + 1 ∨ lAt l ps.length ≠ 0) :
    Calls Try.prog 28 #[.agg #[.slice A ps.length c, .int .i64 wd, .int .i64 ind], .slice A2 l.length c2] w fun e w' => e = .returned (.bool false) ∧ Below w.heap.size w w' := by
  have hm' : l.length ≤ 9223372036854775807 := hm
  have HI := Lib.hid hI
  clear hm hI
  have hk := boxes3 w (.cells #[.slice A ps.length c, .int .i64 wd, .int .i64 ind] 54) (.cells #[.slice A2 l.length c2] 26) (.cells #[.bool false] 4)
  have HKB := Lib.hid hk.2.2
  clear hk
  by_cases hl : l.length = ps.length + 1
  · have hz : ¬ lAt l ps.length = 0 := by rcases hbad with h | h; exact absurd hl h; exact h
    obtain ⟨b, off, rfl, hb, hc⟩ := HI.out (by omega)
    rw [hl] at HKB ⊢
    have l0 := (HKB.out.cell (p := ⟨b, off + ps.length, none⟩) hb).trans (hc ps.length (by omega))
    obtain ⟨x, hx⟩ : ∃ x, lAt l ps.length = x := ⟨_, rfl⟩
    rw [hx] at l0 hz
    have b1 : (x == 0) = false := by simpa using hz
    have b2 : (x != 0) = true := by simpa using hz
    clear hbad hc hx hl
    go_enter Try.func28, Try.ntmps28
    go_wp2
    exact bodyPost_ret (v := .bool false) (by simp [results, go_sem, Try.f28]) rfl ⟨rfl, HKB.out⟩
  · have b1 : ((l.length : Int) == (ps.length : Int) + 1) = false := by simp; omega
    have b2 : ((l.length : Int) != (ps.length : Int) + 1) = true := by simp; omega
    clear hbad hl
    go_enter Try.func28, Try.ntmps28
    go_wp2
    exact bodyPost_ret (v := .bool false) (by simp [results, go_sem, Try.f28]) rfl ⟨rfl, HKB.out⟩
set_option maxRecDepth 100000 in
set_option maxHeartbeats 1000000 in
theorem csound_range (A A2 : Option Addr) (c c2 : Nat) (ps : List Pc) (l : List Int) (wd ind : Int) (w : World) (hps : ps.length ≤ 64) (hl : l.length = ps.length + 1) (hz : lAt l ps.length = 0) (m : Nat) (hm : m < l.length) (hb : ¬ inR l m) (hg : ∀ k, k < m → inR l k) (hI : Ints w w.heap.size A2 l) :
    Calls Try.prog 28 #[.agg #[.slice A ps.length c, .int .i64 wd, .int .i64 ind], .slice A2 l.length c2] w fun e w' => e = .returned (.bool false) ∧ Below w.heap.size w w' := by
  obtain ⟨b, off, rfl, hbl, hc⟩ := hI (by omega)
  have hk := boxes3 w (.cells #[.slice A ps.length c, .int .i64 wd, .int .i64 ind] 54) (.cells #[.slice (some ⟨b, off, none⟩) l.length c2] 26) (.cells #[.bool false] 4)
  rw [hl] at hk hm ⊢
  have hB := hk.2.2
  have l0 := (hB.cell (p := ⟨b, off + ps.length, none⟩) hbl).trans (hc ps.length (by omega))
  rw [hz] at l0
  have HHC : Hid (∀ k, k < ps.length + 1 → w.cell? ⟨b, off + k, none⟩ = some (.int .i64 (lAt l k))) := fun k hk => hc k (by omega)
  have HG := Lib.hid hg
  have HBD := Lib.hid hb
  have HKB := Lib.hid hk
  clear hc hg hb hI hz hk hl hB
  go_enter Try.func28, Try.ntmps28
  go_wp2
  generalize (((w.alloc (.cells #[.slice A ps.length c, .int .i64 wd, .int .i64 ind] 54)).alloc (.cells #[.slice (some ⟨b, off, none⟩) (ps.length + 1) c2] 26)).alloc (.cells #[.bool false] 4)) = W0 at HKB l0 ⊢
  go_loopw [29] (fun q wr => ∃ k : Nat, k ≤ m ∧ q = .int .i64 (k : Int) ∧ wr = W0) (fun q _ => m - (intOf q).toNat)
  case atStart => exact ⟨0, Nat.zero_le _, rfl, rfl⟩
  case round =>
    obtain ⟨k, hk, rfl, rfl⟩ := hrel
    have lk := (HKB.out.2.2.cell (p := ⟨b, off + k, none⟩) hbl).trans (HHC.out k (by omega))
    obtain ⟨x, hx⟩ : ∃ x, lAt l k = x := ⟨_, rfl⟩
    rw [hx] at lk
    have b1 : (k : Int) < (ps.length : Int) + 1 := by omega
    have b2 : k < ps.length + 1 := by omega
    by_cases hkm : k < m
    · have hin : -1099511627776 ≤ x ∧ x ≤ 1099511627776 := by rw [← hx]; exact HG.out k hkm
      have h1 := hin.1
      have h2 := hin.2
      clear hx hin
      go_wp2
      go_roundw
      case rel => exact ⟨k + 1, by omega, by go_num, trivial⟩
      case measure => simp [intOf]; omega
    · obtain rfl : k = m := by omega
      have hout : x < -1099511627776 ∨ (-1099511627776 ≤ x ∧ 1099511627776 < x) := by
        have : ¬ (-1099511627776 ≤ x ∧ x ≤ 1099511627776) := by rw [← hx]; exact HBD.out
        omega
      have z0 := blk_cell HKB.out.1.2.2 0 _ rfl
      have z1 := blk_free HKB.out.1.2.2 0
      have z2 := blk_cell (blk_set HKB.out.1.2.2 0 (.bool false)) 0 (.bool false) rfl
      have hfin : Hid (Below w.heap.size w (wr.setCell ⟨w.heap.size + 2, 0, none⟩ (.bool false))) := HKB.out.2.2.setCell (p := ⟨w.heap.size + 2, 0, none⟩) (by show w.heap.size ≤ w.heap.size + 2; omega) _
      clear hx
      rcases hout with h1 | ⟨h1, h2⟩
      all_goals
        go_wp2
        exact bodyPost_ret (v := .bool false) (by simp [results, go_sem, Try.f28, z2]) rfl ⟨rfl, hfin.out⟩
theorem w_up {a b c : World} (h : Below a.heap.size a b) (k : Below b.heap.size b c) : Below a.heap.size a c := h.trans (k.mono h.size)
theorem grown_low {W W' : World} {r B : Nat} (h : W.grownBy W' (some r)) (hB : B ≤ r) (hs : B ≤ W.heap.size) : Below B W W' := ⟨h.os, h.tape, h.output, h.size, fun k hk => h.block k (by omega) (by simp; omega)⟩
set_option maxRecDepth 100000 in
set_option maxHeartbeats 2000000 in
theorem csound_pairs {r : Bool} (A A2 : Option Addr) (c c2 : Nat) (ps : List Pc) (l : List Int) (wd ind : Int) (w : World) (hp : parB ps wd ind = true) (hl : l.length = ps.length + 1) (hz : lAt l ps.length = 0) (hg : ∀ k, k < l.length → inR l k) (hI : Ints w w.heap.size A2 l) (hP : Pcs w w.heap.size A ps)
    (hr : r = true ↔ ∀ i j, i < j → j ≤ ps.length → okPr ps wd ind l (i, j)) :
    Calls Try.prog 28 #[.agg #[.slice A ps.length c, .int .i64 wd, .int .i64 ind], .slice A2 l.length c2] w fun e w' => e = .returned (.bool r) ∧ Below w.heap.size w w' := by
  have hv := (parB_iff.1 hp).1
  have hf := (parB_iff.1 hp).2
  have h64 := (validB_iff.1 hv).1.2
  obtain ⟨b, off, rfl, hbl, hc⟩ := hI (by omega)
  have hk := boxes3 w (.cells #[.slice A ps.length c, .int .i64 wd, .int .i64 ind] 54) (.cells #[.slice (some ⟨b, off, none⟩) l.length c2] 26) (.cells #[.bool false] 4)
  rw [hl] at hk ⊢
  have hB := hk.2.2
  have l0 := (hB.cell (p := ⟨b, off + ps.length, none⟩) hbl).trans (hc ps.length (by omega))
  rw [hz] at l0
  have HHC : Hid (∀ k, k < ps.length + 1 → w.cell? ⟨b, off + k, none⟩ = some (.int .i64 (lAt l k))) := fun k hk => hc k (by omega)
  have HRG : Hid (∀ k, k < ps.length + 1 → inR l k) := fun k hk => hg k (by omega)
  have HKB := Lib.hid hk
  have HR := Lib.hid hr
  have HV := Lib.hid hv
  have HFF := Lib.hid hf
  have HP := Lib.hid hP
  clear hc hg hI hz hk hl hB hr hv hf hP hp
  refine (callsIn_wide (n := 4)).1 ?_
  obtain ⟨F, hF⟩ : ∃ F, F = Fence.wide := ⟨_, rfl⟩
  have hro : F.round = none := by rw [hF]; rfl
  have hfn : ∀ k, F.fn k := fun k => by rw [hF]; trivial
  rw [← hF]
  have HF := Lib.hid hF
  clear hF
  refine callsIn_of_wp_marks Try.func28 rfl (hfn _) ?_ hro
  simp only [Try.ntmps28, List.size_toArray, List.length_cons, List.length_nil, Nat.reduceAdd, Nat.reduceSub, Array.replicate_succ, Array.replicate_zero, List.push_toArray, List.append_toArray, List.nil_append, List.cons_append]
  gi_wp2
  generalize (((w.alloc (.cells #[.slice A ps.length c, .int .i64 wd, .int .i64 ind] 54)).alloc (.cells #[.slice (some ⟨b, off, none⟩) (ps.length + 1) c2] 26)).alloc (.cells #[.bool false] 4)) = W0 at HKB l0 ⊢
  clear l0
  gi_loopw [29] (fun q wr => ∃ k : Nat, k ≤ ps.length + 1 ∧ q = .int .i64 (k : Int) ∧ wr = W0) (fun q _ => ps.length + 1 - (intOf q).toNat)
  case atStart => exact ⟨0, Nat.zero_le _, rfl, rfl⟩
  case round =>
    obtain ⟨k, hk, rfl, rfl⟩ := hrel
    by_cases hkm : k < ps.length + 1
    · have lk := (HKB.out.2.2.cell (p := ⟨b, off + k, none⟩) hbl).trans (HHC.out k (by omega))
      obtain ⟨x, hx⟩ : ∃ x, lAt l k = x := ⟨_, rfl⟩
      rw [hx] at lk
      have b1 : (k : Int) < (ps.length : Int) + 1 := by omega
      have hin : -1099511627776 ≤ x ∧ x ≤ 1099511627776 := by rw [← hx]; exact HRG.out k hkm
      have h1 := hin.1
      have h2 := hin.2
      clear hx hin
      gi_wp2
      go_roundw
      case rel => exact ⟨k + 1, by omega, by go_num, trivial⟩
      case measure => simp [intOf]; omega
    · obtain rfl : k = ps.length + 1 := by omega
      have p0 := blk_cell HKB.out.1.1 0 _ rfl
      have p1 := blk_cell HKB.out.1.1 1 _ rfl
      have p2 := blk_cell HKB.out.1.1 2 _ rfl
      gi_wp2_with (gi_at_call 25; refine (clines_in F (4 - 1) HF.out _ _ _ _ _ _).mono ?_; rintro e w' ⟨rfl, rfl⟩)
      obtain ⟨s, hs⟩ : ∃ s, s = w.heap.size := ⟨_, rfl⟩
      rw [← hs] at HKB hbl ⊢
      have hsz := HKB.out.2.1
      obtain ⟨W2, hW2⟩ : ∃ W2, W2 = wr.alloc (.cells #[.slice A ps.length c, .int .i64 wd, .int .i64 ind] 54) := ⟨_, rfl⟩
      have k2 := blk_new wr (.cells #[.slice A ps.length c, .int .i64 wd, .int .i64 ind] 54)
      have ks : W2.heap.size = s + 4 := by rw [hW2]; simp; omega
      have kB : Below s w W2 := by rw [hW2]; exact HKB.out.2.2.alloc (by omega) _
      have k3 : W2.heap[s]? = some (.cells #[.slice A ps.length c, .int .i64 wd, .int .i64 ind] 54 (0, 0)) ∧ W2.heap[s + 1]? = some (.cells #[.slice (some ⟨b, off, none⟩) (ps.length + 1) c2] 26 (0, 0)) ∧ W2.heap[s + 2]? = some (.cells #[.bool false] 4 (0, 0)) := by
        rw [hW2]
        exact ⟨blk_more HKB.out.1.1 _, blk_more HKB.out.1.2.1 _, blk_more HKB.out.1.2.2 _⟩
      rw [← hW2, hsz] at k2
      rw [← hW2, hsz]
      simp only [Nat.add_assoc, Nat.reduceAdd]
      have HPs : Hid (Pcs w s A ps) := by rw [hs]; exact HP.out
      have hst2 : SeqStopsK F (4 - 1) Try.prog 38 #[.pointer (some ⟨s + 3, 0, none⟩)] _ _ _ _ _ W2 :=
        clines_stops F (4 - 1) HF.out (by omega) (s + 3) s ps.length c A wd ind h64 W2 (by omega) k2
      have HST := Lib.hid hst2
      have HS := Lib.hid hs
      have HK := Lib.hid (And.intro k3 kB)
      have ks1 : s + 4 ≤ W2.heap.size := by omega
      have ks2 : W2.heap.size ≤ s + 4 := by omega
      clear hst2 k2 k3 kB hW2 p0 p1 p2 hsz ks hs HKB
      refine wpIn_rangeFunc_ownG hro (by omega) (gf := 38) (lb := #[.pointer (some ⟨s + 3, 0, none⟩)]) rfl (hfn _) (enters_of Try.func38 (by kernel_rfl) rfl)
        HST.out (fun a b => a.trans b) (Keep.put (by omega) (by omega)) (Below.refl _ _) (fun _ => rfl)
        (fun pre W => (∀ x, x ∈ pre → okPr ps wd ind l x.val) ∧ Below W2.heap.size W2 W)
        (fun cd _ W => (cd = .ret ∧ ∃ i j, i < j ∧ j ≤ ps.length ∧ ¬ okPr ps wd ind l (i, j)) ∧ (W.heap[s + 2]? = some (.cells #[.bool false] 4 (0, 0)) ∧ W2.grownBy W (some (s + 2))))
        (OwnFrom.and (fun _ _ _ _ h _ _ => h) (ownFrom_below (Nat.le_refl _) (Nat.le_refl _)))
        (fun cd => OwnFrom.and (fun _ _ _ _ h _ _ => h) (OwnFrom.and (heap_from _ _ _ _) (grown_from (Nat.le_refl _))))
        ⟨by simp, Below.refl _ _⟩
        (fun x => { tmps := #[.agg #[.slice A ps.length c, .int .i64 wd, .int .i64 ind], .slice (some ⟨b, off, none⟩) (ps.length + 1) c2, .pointer (some ⟨s, 0, none⟩), .pointer (some ⟨s + 1, 0, none⟩), .pointer (some ⟨s + 2, 0, none⟩), .int .i64 (ps.length : Int), undef, u7, .int .i64 (x.val.1 : Int), .int .i64 (x.val.2 : Int), undef, undef,
          .pointer (some ⟨s, 0, none⟩), .slice A ps.length c, .int .i64 (ps.length : Int), .slice (some ⟨b, off, none⟩) (ps.length + 1) c2, .int .i64 ((ps.length : Int) + 1), .int .i64 (ps.length : Int), .int .i64 ((ps.length : Int) + 1), .bool false, .bool false,
          .slice (some ⟨b, off, none⟩) (ps.length + 1) c2, .int .i64 (ps.length : Int), .pointer (some ⟨b, off + ps.length, none⟩), .int .i64 0, .bool false, .bool false, .slice (some ⟨b, off, none⟩) (ps.length + 1) c2, .int .i64 ((ps.length : Int) + 1), .int .i64 ((ps.length : Int) + 1), .bool false, u31, u32, u33, u34, u35, u36, u37, u38, u39,
          .agg #[.slice A ps.length c, .int .i64 wd, .int .i64 ind], .func (.func 38) #[] #[.pointer (some ⟨s + 3, 0, none⟩)], .int .i64 (x.val.1 : Int), .int .i64 (x.val.2 : Int), undef, undef, undef, undef, undef, undef, undef, undef, undef, undef, undef, undef, undef, undef, undef, undef, undef, undef, undef, undef, undef], defers := [] }) ?assign ?body ?done ?stop
      case assign =>
        intro l x W K hK
        gi_wp2
        exact hK
      case body =>
        rintro l0 pre x W ⟨hall, hg⟩ hpl
        obtain ⟨⟨i, j⟩, hij, hjn⟩ := x
        replace hij : i < j := hij
        replace hjn : j ≤ ps.length := hjn
        have hgs := hg.size
        have HALL := Lib.hid hall
        have HG := Lib.hid hg
        have hPX : Hid (Pcs W W.heap.size A ps) := by
          show Pcs _ _ _ _
          exact (HPs.out.below (HK.out.2.trans (hg.mono (by omega)))).mono (by omega)
        have g0 := (hg.block s (by omega)).trans HK.out.1.1
        have g1 := (hg.block (s + 1) (by omega)).trans HK.out.1.2.1
        have g2 := (hg.block (s + 2) (by omega)).trans HK.out.1.2.2
        have p0 := blk_cell g0 0 _ rfl
        have p1 := blk_cell g0 1 _ rfl
        have p2 := blk_cell g0 2 _ rfl
        have hBW : Below s w W := HK.out.2.trans (hg.mono (by omega))
        have ci := (hBW.cell (p := ⟨b, off + i, none⟩) hbl).trans (HHC.out i (by omega))
        have cj := (hBW.cell (p := ⟨b, off + j, none⟩) hbl).trans (HHC.out j (by omega))
        have hii := HRG.out i (by omega)
        have hjj := HRG.out j (by omega)
        obtain ⟨x, hx⟩ : ∃ x, lAt l i = x := ⟨_, rfl⟩
        obtain ⟨y, hy⟩ : ∃ y, lAt l j = y := ⟨_, rfl⟩
        unfold inR at hii hjj
        rw [hx] at ci hii
        rw [hy] at cj hjj
        have hCb := cC_bound HV.out HFF.out (i := i) (j := j) (by omega) hjn
        have HXY := Lib.hid (And.intro hx hy)
        have HC := Lib.hid (And.intro ci cj)
        have HG1 := Lib.hid (And.intro g1 g2)
        have hb2 : b < W.heap.size := by omega
        clear hall hg g0 g1 g2 hpl hx hy ci cj hBW
        obtain ⟨q, hq⟩ : ∃ q, gG ps wd ind i j = q := ⟨_, rfl⟩
        have HQ := Lib.hid hq
        have hDem := fun X hX => dems_any A c ps wd ind (i : Int) (j : Int) X (by omega) (by omega) (by omega) HV.out HFF.out hX (r := q) (by rw [Int.toNat_natCast, Int.toNat_natCast]; exact hq)
        simp only [Int.toNat_natCast] at hDem
        have HDEM := Lib.hid hDem
        clear hq hDem
        dsimp only
        cases q
        · gi_wp2_with (gi_at_call 26; refine (inWideRound HF.out (HDEM.out _ hPX.out)).mono ?_; rintro e w5 ⟨rfl, hb5⟩; simp only [cond_false]; have HB5 := Lib.hid hb5; clear hb5)
          rw [HF.out]
          refine wpIn_region_round_still (fun W' => ∃ v : Bel w5.heap.size w5, W' = v.v) (by kernel_rfl) (by kernel_rfl) (by kernel_rfl) ⟨⟨_, (Below.refl _ _).drew⟩, rfl⟩ ?_
          repeat (go_big_quiet_step (fail))
          refine wpQuiet_nil ?_
          rintro w' ⟨v, rfl⟩
          gi_wp2
          refine ⟨(keepsFrom_below HB5.out).trans (keepsFrom_below v.h), (Keep.of_below HB5.out (by omega) (by omega)).trans (Keep.of_below v.h (by have := HB5.out.size; omega) (by have := HB5.out.size; omega)), ?_, ?_⟩
          · intro x hx
            rcases List.mem_append.1 hx with h | h
            · exact HALL.out x h
            · rw [List.mem_singleton.1 h]
              intro hgg
              have := HQ.out
              rw [show gG ps wd ind i j = true from hgg] at this
              cases this
          · exact HG.out.trans ((HB5.out.mono (by omega)).trans (v.h.mono (by have := HB5.out.size; omega)))
        · have hPOST : ∀ w5, Below W.heap.size W w5 → ∀ v : Bel w5.heap.size w5, (v.v.cell? ⟨s + 1, 0, none⟩ = some (.slice (some ⟨b, off, none⟩) (ps.length + 1) c2) ∧ v.v.cell? ⟨b, off + i, none⟩ = some (.int .i64 x) ∧ v.v.cell? ⟨b, off + j, none⟩ = some (.int .i64 y)) := fun w5 h5 v => by
            have h6 : Below W.heap.size W v.v := h5.trans (v.h.mono h5.size)
            exact ⟨blk_cell ((h6.block (s + 1) (by omega)).trans HG1.out.1) 0 _ rfl, (h6.cell (p := ⟨b, off + i, none⟩) hb2).trans HC.out.1, (h6.cell (p := ⟨b, off + j, none⟩) hb2).trans HC.out.2⟩
          have HPOST := Lib.hid hPOST
          obtain ⟨d, hd⟩ : ∃ d, cC ps wd ind i j = d := ⟨_, rfl⟩
          rw [hd] at hCb HDEM
          have HD := Lib.hid hd
          have hi1 := hii.1
          have hi2 := hii.2
          have hj1 := hjj.1
          have hj2 := hjj.2
          clear hPOST hd hii hjj
          have s1 : IntKind.i64.wrap (d + y) = d + y := IntWalk.i64_in _ (by omega)
          have q1 : (i : Int) < (ps.length : Int) + 1 := by omega
          have q2 : (j : Int) < (ps.length : Int) + 1 := by omega
          by_cases hlt : d + y < x
          · have HLT := Lib.hid hlt
            gi_wp2_with (gi_at_call 26; refine (inWideRound HF.out (HDEM.out _ hPX.out)).mono ?_; rintro e w5 ⟨rfl, hb5⟩; simp only [cond_true]; have HB5 := Lib.hid hb5; have y0 := fun v => (HPOST.out w5 hb5 v).1; have y1 := fun v => (HPOST.out w5 hb5 v).2.1; have y2 := fun v => (HPOST.out w5 hb5 v).2.2; clear hb5)
            rw [HF.out]
            refine wpIn_region_round_still (fun W' => ∃ v : Bel w5.heap.size w5, W' = v.v) (by kernel_rfl) (by kernel_rfl) (by kernel_rfl) ⟨⟨_, (Below.refl _ _).drew⟩, rfl⟩ ?_
            repeat (go_big_quiet_step (fail))
            clear y0 y1 y2
            refine wpQuiet_nil ?_
            rintro w' ⟨v, rfl⟩
            have h6 : Below W.heap.size W v.v := HB5.out.trans (v.h.mono HB5.out.size)
            have g2 := (h6.block (s + 2) (by omega)).trans HG1.out.2
            have c0 := blk_cell g2 0 _ rfl
            have z0 := blk_free g2 0
            have G2 := Lib.hid g2
            have H6 := Lib.hid h6
            clear g2 h6
            gi_wp2
            refine ⟨((keepsFrom_below H6.out).trans ((KeepsOthers.setCell _ _ _).from _)), ⟨rfl, i, j, hij, hjn, fun h => ?_⟩, blk_set G2.out 0 _, ?_⟩
            · have h7 := h HQ.out
              have h8 := HXY.out
              have h9 := HD.out
              have h10 := HLT.out
              dsimp only at h7
              omega
            · exact grown_set (p := ⟨s + 2, 0, none⟩) (below_grown (w_up HG.out H6.out) _) _
          · have HLT := Lib.hid hlt
            gi_wp2_with (gi_at_call 26; refine (inWideRound HF.out (HDEM.out _ hPX.out)).mono ?_; rintro e w5 ⟨rfl, hb5⟩; simp only [cond_true]; have HB5 := Lib.hid hb5; have y0 := fun v => (HPOST.out w5 hb5 v).1; have y1 := fun v => (HPOST.out w5 hb5 v).2.1; have y2 := fun v => (HPOST.out w5 hb5 v).2.2; clear hb5)
            rw [HF.out]
            refine wpIn_region_round_still (fun W' => ∃ v : Bel w5.heap.size w5, W' = v.v) (by kernel_rfl) (by kernel_rfl) (by kernel_rfl) ⟨⟨_, (Below.refl _ _).drew⟩, rfl⟩ ?_
            repeat (go_big_quiet_step (fail))
            clear y0 y1 y2
            refine wpQuiet_nil ?_
            rintro w' ⟨v, rfl⟩
            have h6 : Below W.heap.size W v.v := HB5.out.trans (v.h.mono HB5.out.size)
            have H6 := Lib.hid h6
            clear h6
            gi_wp2
            refine ⟨keepsFrom_below H6.out, Keep.of_below H6.out (by omega) (by omega), ?_, w_up HG.out H6.out⟩
            intro x' hx'
            rcases List.mem_append.1 hx' with h | h
            · exact HALL.out x' h
            · rw [List.mem_singleton.1 h]
              intro _
              have h8 := HXY.out
              have h9 := HD.out
              have h10 := HLT.out
              show lAt l i ≤ cC ps wd ind i j + lAt l j
              omega
      case done =>
        rintro D ys W hD hys ⟨hall, hg⟩ hDk
        have hR : r = true := HR.out.2 (fun i j hij hj => by
          have hm := mem_pairs hij hj ps.length (Nat.le_refl _) (by omega)
          rw [← hys] at hm
          obtain ⟨x, hx, e⟩ := List.mem_map.1 hm
          have := hall x hx
          rw [e] at this
          exact this)
        subst hR
        have g2 := (hg.block (s + 2) (by omega)).trans HK.out.1.2.2
        have c0 := blk_cell g2 0 _ rfl
        have z0 := blk_free g2 0
        have G2 := Lib.hid g2
        have HG := Lib.hid hg
        have HDK := Lib.hid hDk
        clear g2 hg hDk hall hys
        gi_wp2
        have hK3 := ((KeepsOthers.setCell W ⟨s + 2, 0, none⟩ (.bool true))).same D _ HDK.out rfl
        refine ⟨by simp, .inl ⟨_, _, rfl, run_takeDeferred hK3, ?_⟩⟩
        have hb4 : ((W.setCell ⟨s + 2, 0, none⟩ (.bool true)).putObj D (.deferred none)).heap[s + 2]? = some (.cells #[.bool true] 4 (0, 0)) := (World.putObj_heap_other (by omega)).trans (blk_set G2.out 0 _)
        have q0 := blk_cell hb4 0 (.bool true) rfl
        refine ⟨.bool true, ?_, rfl, ?_⟩
        · simp [results, Try.f28, go_sem, q0]
        · rw [← HS.out]
          refine ((HK.out.2.trans (HG.out.mono (by omega))).setCell (p := ⟨s + 2, 0, none⟩) (by show s ≤ s + 2; omega) (.bool true)).trans ?_
          exact ⟨rfl, rfl, rfl, by simp [World.putObj], fun k hk => World.putObj_heap_other (by omega)⟩
      case stop =>
        rintro D k pre W hD _ ⟨⟨rfl, hbad⟩, hw, hg⟩ hDk
        have hR : r = false := by
          cases r with
          | false => rfl
          | true =>
            obtain ⟨i, j, h1, h2, h3⟩ := hbad
            exact absurd (HR.out.1 rfl i j h1 h2) h3
        subst hR
        have HW := Lib.hid hw
        have HG := Lib.hid hg
        have HDK := Lib.hid hDk
        clear hw hg hDk hbad
        gi_wp2
        refine ⟨by simp, .inl ⟨_, _, rfl, run_takeDeferred HDK.out, ?_⟩⟩
        have hb4 : (W.putObj D (.deferred none)).heap[s + 2]? = some (.cells #[.bool false] 4 (0, 0)) := (World.putObj_heap_other (by omega)).trans HW.out
        have q0 := blk_cell hb4 0 (.bool false) rfl
        refine ⟨.bool false, ?_, rfl, ?_⟩
        · simp [results, Try.f28, go_sem, q0]
        · rw [← HS.out]
          refine (HK.out.2.trans (grown_low HG.out (by omega) (by omega))).trans ?_
          exact ⟨rfl, rfl, rfl, by simp [World.putObj], fun k hk => World.putObj_heap_other (by omega)⟩
theorem soundP_iff {ps : List Pc} {wd ind : Int} {l : List Int} : SoundP ps wd ind l ↔ l.length = ps.length + 1 ∧ lAt l ps.length = 0 ∧ (∀ k, k < l.length → inR l k) ∧ ∀ i j, i < j → j ≤ ps.length → okPr ps wd ind l (i, j) := Iff.rfl
/-- paragraph.sound, whatever the numbers are. -/
theorem csound_any {r : Bool} (A A2 : Option Addr) (c c2 : Nat) (ps : List Pc) (l : List Int) (wd ind : Int) (w : World) (hp : parB ps wd ind = true) (hr : r = true ↔ SoundP ps wd ind l) (hm : l.length ≤ lenMax) (hI : Ints w w.heap.size A2 l) (hP : Pcs w w.heap.size A ps) :
    Calls Try.prog 28 #[.agg #[.slice A ps.length c, .int .i64 wd, .int .i64 ind], .slice A2 l.length c2] w fun e w' => e = .returned (.bool r) ∧ Below w.heap.size w w' := by
  have h64 := (validB_iff.1 (parB_iff.1 hp).1).1.2
  by_cases h1 : l.length = ps.length + 1
  · by_cases h2 : lAt l ps.length = 0
    · rcases first_bad (inR_dec l) l.length with h3 | ⟨m, hm1, hm2, hm3⟩
      · exact csound_pairs A A2 c c2 ps l wd ind w hp h1 h2 h3 hI hP (hr.trans (soundP_iff.trans ⟨fun h => h.2.2.2, fun h => ⟨h1, h2, h3, h⟩⟩))
      · have : r = false := by
          cases r with
          | false => rfl
          | true => exact absurd ((soundP_iff.1 (hr.1 rfl)).2.2.1 m hm1) hm2
        subst this
        exact csound_range A A2 c c2 ps l wd ind w h64 h1 h2 m hm1 hm2 hm3 hI
    · have : r = false := by
        cases r with
        | false => rfl
        | true => exact absurd (hr.1 rfl).2.1 h2
      subst this
      exact csound_early A A2 c c2 ps l wd ind w hm h64 hI (.inr h2)
  · have : r = false := by
      cases r with
      | false => rfl
      | true => exact absurd (hr.1 rfl).1 h1
    subst this
    exact csound_early A A2 c c2 ps l wd ind w hm h64 hI (.inl h1)
theorem sound_dec (ps : List Pc) (wd ind : Int) (l : List Int) : ∃ r : Bool, r = true ↔ SoundP ps wd ind l := by
  by_cases h : SoundP ps wd ind l
  · exact ⟨true, by simp [h]⟩
  · exact ⟨false, by simp [h]⟩
end Go.Proofs.Ytkamffjncndabaa
