/- breaker.Fewest. -/
import Derived.Test.YtogkjaohphnflaaBrkBest
import Derived.Test.YtogkjaohphnflaaBrkFew
import Derived.Sort.LoopGhostIn
import Derived.Test.YtogkjaohphnflaaRoundQuiet
import Derived.Test.YtogkjaohphnflaaBrkCount
namespace Go.Proofs.Ytogkjaohphnflaa
open Go.RowKit
attribute [local go_sem] Oper.semAt_some
theorem make_ints (n : Nat) (hn : n ≤ 1000) (W : World) : (Instr.makeSlice 27 (.int .i64 ((n : Int) + 1)) (.int .i64 ((n : Int) + 1))).run Try.prog W =
    .ok (.slice (some ⟨W.heap.size, 0, none⟩) (n + 1) (n + 1)) (W.alloc (.cells (madeCells #[.int .i64 0] (n + 1)) 3)) := by
  obtain ⟨i, hi, hz, hs, hb⟩ := info_parts infoI
  have h := run_make (P := Try.prog) W 27 3 i (.int .i64 0) Try.underlying27 hi hz .i64 .i64 ((n : Int) + 1) ((n : Int) + 1) (by omega) (by omega) (by rw [hb]; omega) (by omega)
  rw [hs, show ((n : Int) + 1).toNat = n + 1 by omega, Nat.mul_one] at h
  exact h
def mkD (D : Nat) : Deferred := { target := .collected D, args := #[] }
/-- A function that has ranged over functions in a loop leaves with a mark for each of the loops. -/
theorem leaves_marks {P : Program} {F : Fence} {n : Nat} {fn : Func} {tmps : Array Value} {R : Ending → World → Prop} {s : Nat} : ∀ (Ds : List Nat) (w : World), (∀ D, D ∈ Ds → s ≤ D ∧ w.heap[D]? = some (.deferred (some []))) → Ds.Nodup →
    (∀ w', Below s w w' → LeavesInM F n P fn tmps R [] .returning w') → LeavesInM F n P fn tmps R (Ds.map mkD) .returning w
  | [], w, _, _, h => h w (Below.refl _ _)
  | D :: Ds, w, hD, hn, h => by
    obtain ⟨h1, h2⟩ := hD D List.mem_cons_self
    refine ⟨by simp, .inl ⟨D, _, rfl, run_takeDeferred h2, ?_⟩⟩
    have hb : Below s w (w.putObj D (.deferred none)) := ⟨rfl, rfl, rfl, by simp [World.putObj], fun k hk => World.putObj_heap_other (by omega)⟩
    refine leaves_marks Ds _ (fun E hE => ⟨(hD E (List.mem_cons_of_mem _ hE)).1, ?_⟩) (List.nodup_cons.1 hn).2 (fun w' hw' => h w' (hb.trans hw'))
    rw [World.putObj_heap_other (fun e => by subst e; exact (List.nodup_cons.1 hn).1 hE)]
    exact (hD E (List.mem_cons_of_mem _ hE)).2
def FewC (cs : Array Value) (n : Nat) (T : Nat → Nat) : Prop := ∀ k, k ≤ n → cs[k]? = some (.int .i64 (T k : Int))
theorem FewC.set {cs : Array Value} {n j : Nat} {T T' : Nat → Nat} (h : FewC cs n T) (hj : j ≤ n) (x : Nat) (e : ∀ k, k ≤ n → T' k = if k = j then x else T k) : FewC (cs.setIfInBounds j (.int .i64 (x : Int))) n T' := fun k hk => by
  have b := (Array.getElem?_eq_some_iff.1 (h k hk)).1
  rw [Array.getElem?_setIfInBounds, e k hk]
  by_cases h1 : k = j
  · subst h1; rw [if_pos rfl, if_pos b, if_pos rfl]
  · rw [if_neg (fun x => h1 x.symm), if_neg h1]; exact h k hk
def fewL (n : Nat) (T : Nat → Nat) (l : List Nat) : Nat := l.foldl (fun b j => min b (T j + 1)) n
theorem fewL_snoc (n : Nat) (T : Nat → Nat) (l : List Nat) (j : Nat) : fewL n T (l ++ [j]) = min (fewL n T l) (T j + 1) := by
  unfold fewL
  rw [List.foldl_append]
  rfl
theorem fewL_legs (n : Nat) (G : Nat → Nat → Bool) (T : Nat → Nat) (i : Nat) : ∀ c : Nat, fewL n T (legsL G i c) = fewE n G T i c
  | 0 => rfl
  | c + 1 => by
    have ih := fewL_legs n G T i c
    unfold legsL fewE
    split
    · rw [fewL_snoc, ih]
    · exact ih
theorem fold_le (T : Nat → Nat) : ∀ (l : List Nat) (b : Nat), l.foldl (fun b j => min b (T j + 1)) b ≤ b
  | [], b => Nat.le_refl _
  | j :: l, b => by
    have := fold_le T l (min b (T j + 1))
    rw [List.foldl_cons]
    omega
theorem fewL_le (n : Nat) (T : Nat → Nat) (l : List Nat) : fewL n T l ≤ n := fold_le T l n
theorem fewF_le (n : Nat) (G : Nat → Nat → Bool) : ∀ d j : Nat, fewF n G d j ≤ n
  | 0, _ => Nat.zero_le _
  | d + 1, j => by
    show (if j = n - 1 - d then fewE n G (fewF n G d) j (n - j) else fewF n G d j) ≤ n
    split
    · exact (fewE_spec _).2.2
    · exact fewF_le n G d j
theorem grown_from {β : Type} {B t : Nat} {w₀ : World} (hB : w₀.heap.size ≤ B) : OwnFrom B (fun (_ : β) W => w₀.grownBy W (some t)) := fun _ W W' row h hg hr =>
  ⟨hg.os.trans h.os, hg.tape.trans h.tape, hg.output.trans h.output, Nat.le_trans h.size hg.size, fun k hk hne => (hg.block k (Nat.lt_of_lt_of_le hk h.size) (fun e => by have := (hr k e.symm).1; omega)).trans (h.block k hk hne)⟩
theorem cells_from {β : Type} (t : Nat) (ty : TypeId) (f : β → Array Value) (B : Nat) : OwnFrom B (fun (x : β) (W : World) => W.heap[t]? = some (.cells (f x) ty (0, 0))) := fun x => heap_from t B (f x) ty x
set_option maxRecDepth 100000 in
set_option maxHeartbeats 2000000 in
theorem Fewest_yes (A : Option Addr) (c : Nat) (ps : List Pc) (wd ind : Int) (w : World) (hv : validB ps = true) (hf : fitsB wd ind = true) (hP : Pcs w w.heap.size A ps) :
    Calls Try.prog 17 #[.slice A ps.length c, .int .i64 wd, .int .i64 ind] w fun e w' => e = .returned (.tuple #[.int .i64 (fewT ps.length (gG ps wd ind) 0 : Int), .int .i64 0]) ∧ Below w.heap.size w w' := by
  have hff := fitsB_iff.1 hf
  have h64 := (validB_iff.1 hv).1.2
  have h1 := (validB_iff.1 hv).1.1
  have HM : Hid (ps.length ≤ lenMax) := by show _ ≤ _; unfold lenMax; omega
  have HQ : Hid (parB ps wd ind = true) := parB_iff.2 ⟨hv, hf⟩
  have HV := Lib.hid hv
  have HFF := Lib.hid hf
  have HP := Lib.hid hP
  clear hv hf hP
  refine (callsIn_wide (n := 4)).1 ?_
  obtain ⟨F, hF⟩ : ∃ F, F = Fence.wide := ⟨_, rfl⟩
  have hro : F.round = none := by rw [hF]; rfl
  have hfn : ∀ k, F.fn k := fun k => by rw [hF]; trivial
  rw [← hF]
  have HF := Lib.hid hF
  clear hF
  have hmi := make_ints ps.length (by omega)
  have e0 : IntKind.i64.wrap ((ps.length : Int) + 1) = (ps.length : Int) + 1 := IntWalk.i64_in _ (by omega)
  have HB : Hid (Below w.heap.size w (w.alloc (.cells #[.slice A ps.length c, .int .i64 wd, .int .i64 ind] 46))) := (Below.refl _ _).alloc (Nat.le_refl _) _
  refine callsIn_of_wp_marks Try.func17 rfl (hfn _) ?_ hro
  simp only [Try.ntmps17, List.size_toArray, List.length_cons, List.length_nil, Nat.reduceAdd, Nat.reduceSub, Array.replicate_succ, Array.replicate_zero, List.push_toArray, List.append_toArray, List.nil_append, List.cons_append]
  gi_wp2_with (gi_at_call 24; refine (inWide HF.out (pvalid_at _ _ ps _ _ _ HQ.out HM.out (HP.out.next HB.out))).mono ?_; rintro e w1 ⟨rfl, hb1⟩; have HB1 : Hid (Below w.heap.size w w1) := below_next HB.out hb1; have hbP := Lib.hid ((hb1.block w.heap.size (by simp)).trans (World.alloc_heap_new w _)); have f0 := kept_box hb1 0 _ rfl; have f1 := kept_box hb1 1 _ rfl; have f2 := kept_box hb1 2 _ rfl; clear hb1)
  obtain ⟨t, ht⟩ : ∃ t, t = w1.heap.size := ⟨_, rfl⟩
  have hst : w.heap.size < t := by have := (Array.getElem?_eq_some_iff.1 hbP.out).1; omega
  have kb := boxes3 w1 (.cells (madeCells #[.int .i64 0] (ps.length + 1)) 3) (.cells #[.slice (some ⟨t, 0, none⟩) (ps.length + 1) (ps.length + 1)] 27) (.cells #[.int .i64 ((ps.length : Int) - 1)] 3)
  rw [← ht] at kb ⊢
  generalize (((w1.alloc (.cells (madeCells #[.int .i64 0] (ps.length + 1)) 3)).alloc (.cells #[.slice (some ⟨t, 0, none⟩) (ps.length + 1) (ps.length + 1)] 27)).alloc (.cells #[.int .i64 ((ps.length : Int) - 1)] 3)) = W0 at kb ⊢
  obtain ⟨⟨k0, k1, k2⟩, ks, kB⟩ := kb
  have hP0 : W0.heap[w.heap.size]? = some (.cells #[.slice A ps.length c, .int .i64 wd, .int .i64 ind] 46 (0, 0)) := (kB.block _ hst).trans hbP.out
  have hW0 : Below w.heap.size w W0 := HB1.out.trans (kB.mono (by omega))
  have HW0 := Lib.hid (And.intro (And.intro k0 k1) (And.intro k2 (And.intro hP0 hW0)))
  clear k0 k1 k2 kB hP0 hW0 f0 f1 f2 hmi e0
  have HT := Lib.hid ht
  clear ht
  refine wpIn_loop_ghost_k (fun g a wr => ∃ (d : Nat) (cs : Array Value) (bI : Nat) (Ds : List Nat) (u27 u28 u29 u30 u31 u32 u33 u34 u35 u36 u37 u53 : Value), d ≤ ps.length ∧ g = ps.length - d ∧
    a = { tmps := #[.slice A ps.length c, .int .i64 wd, .int .i64 ind, undef, undef, undef, .int .i64 0, .int .i64 0, .pointer (some ⟨w.heap.size, 0, none⟩), .int .i64 (ps.length : Int), .pointer (some ⟨t + 1, 0, none⟩), .pointer (some ⟨bI, 0, none⟩), undef, .slice A ps.length c, .int .i64 wd, .int .i64 ind,
      .agg #[.slice A ps.length c, .int .i64 wd, .int .i64 ind], .agg #[.slice A ps.length c, .int .i64 wd, .int .i64 ind], .bool true, .bool false, .slice A ps.length c, .int .i64 (ps.length : Int), .int .i64 (ps.length : Int), .int .i64 ((ps.length : Int) + 1), .slice (some ⟨t, 0, none⟩) (ps.length + 1) (ps.length + 1), .int .i64 (ps.length : Int), .int .i64 ((ps.length : Int) - 1),
      u27, u28, u29, u30, u31, u32, u33, u34, u35, u36, u37, undef, undef, undef, undef, undef, undef, undef, undef, undef, undef, undef, undef, undef, undef, undef, u53, undef, undef, undef], defers := Ds.map mkD } ∧
    (wr.heap[t]? = some (.cells cs 3 (0, 0)) ∧ FewC cs ps.length (fewF ps.length (gG ps wd ind) d)) ∧ wr.heap[t + 1]? = some (.cells #[.slice (some ⟨t, 0, none⟩) (ps.length + 1) (ps.length + 1)] 27 (0, 0)) ∧
    (t + 1 < bI ∧ wr.heap[bI]? = some (.cells #[.int .i64 ((ps.length : Int) - 1 - (d : Int))] 3 (0, 0))) ∧ ((∀ D, D ∈ Ds → t + 1 < D ∧ wr.heap[D]? = some (.deferred (some []))) ∧ Ds.Nodup) ∧ Below t W0 wr) ps.length ?start ?round
  case start =>
    refine ⟨0, _, t + 1 + 1, [], _, _, _, _, _, _, _, _, _, _, _, _, Nat.zero_le _, rfl, rfl, ⟨HW0.out.1.1, ?_⟩, HW0.out.1.2, ⟨by omega, ?_⟩, ⟨by simp, List.nodup_nil⟩, Below.refl _ _⟩
    · intro k hk
      have e : (madeCells #[Value.int .i64 0] (ps.length + 1))[k]? = some (.int .i64 0) := by simp [madeCells, Nat.mod_one, show k < ps.length + 1 by omega]
      exact e
    · have := HW0.out.2.1
      simpa using this
  case round =>
    rintro g a wr ⟨d, cs, bI, Ds, u27, u28, u29, u30, u31, u32, u33, u34, u35, u36, u37, u53, hd, rfl, rfl, ⟨hcs, hfc⟩, ht1, ⟨hbI, hI⟩, ⟨hDs, hnd⟩, hbw⟩ J K hJ hK
    have HJ := Lib.hid hJ
    have HK := Lib.hid hK
    have hIl := (Array.getElem?_eq_some_iff.1 hI).1
    have i0 := blk_cell hI 0 _ rfl
    have hsz := hbw.size
    rw [ks] at hsz
    have HI := Lib.hid hI
    have HCS := Lib.hid (And.intro hcs hfc)
    have HT1 := Lib.hid ht1
    have HDS := Lib.hid (And.intro hDs hnd)
    have HBW := Lib.hid hbw
    clear hJ hK hI hcs hfc ht1 hDs hnd hbw
    by_cases hlt : d < ps.length
    · obtain ⟨j, hj, hjd⟩ : ∃ j : Nat, (ps.length : Int) - 1 - (d : Int) = (j : Int) ∧ j = ps.length - 1 - d := ⟨ps.length - 1 - d, by omega, rfl⟩
      rw [hj] at i0
      have hjl : j < ps.length := by omega
      have HJD := Lib.hid (And.intro hj hjd)
      clear hj hjd
      have s0 := blk_cell HT1.out 0 _ rfl
      have c0 := blk_cell HCS.out.1 j _ (HCS.out.2 j (by omega))
      have z0 := blk_free HCS.out.1 j
      have hP1 := (HBW.out.block w.heap.size hst).trans HW0.out.2.2.1
      have p0 := blk_cell hP1 0 _ rfl
      have p1 := blk_cell hP1 1 _ rfl
      have p2 := blk_cell hP1 2 _ rfl
      have HP1 := Lib.hid hP1
      clear hP1
      gi_wp2_with (gi_at_call 30; refine (plines_in F (4 - 1) HF.out _ _ _ _ _ j _ hff.1 hff.2.1 hff.2.2.1 hff.2.2.2).mono ?_; rintro e w' ⟨rfl, rfl⟩)
      obtain ⟨X, hX⟩ : ∃ X, X = wr.setCell ⟨t, j, none⟩ (.int .i64 (ps.length : Int)) := ⟨_, rfl⟩
      have hXs : X.heap.size = wr.heap.size := by rw [hX]; simp [World.setCell]
      have x0 : X.heap[t]? = some (.cells (cs.setIfInBounds j (.int .i64 (ps.length : Int))) 3 (0, 0)) := by rw [hX]; exact blk_set HCS.out.1 j _
      have xo : ∀ k, k ≠ t → X.heap[k]? = wr.heap[k]? := fun k hk => by rw [hX]; exact Below.heap_setCell _ _ _ _ hk
      have xB : Below t wr X := by rw [hX]; exact (Below.refl _ _).setCell (p := ⟨t, j, none⟩) (Nat.le_refl _) _
      rw [← hX, ← hXs]
      clear hX
      obtain ⟨W2, hW2⟩ : ∃ W2, W2 = ((X.alloc (.cells #[.slice A ps.length c, .int .i64 wd, .int .i64 ind] 46)).alloc (.cells #[.int .i64 (j : Int)] 3)).alloc (.cells #[.int .i64 (widAt wd ind j)] 3) := ⟨_, rfl⟩
      have k1 := boxes3 X (.cells #[.slice A ps.length c, .int .i64 wd, .int .i64 ind] 46) (.cells #[.int .i64 (j : Int)] 3) (.cells #[.int .i64 (widAt wd ind j)] 3)
      obtain ⟨lo, hlo⟩ : ∃ lo, lo = X.heap.size := ⟨_, rfl⟩
      rw [← hW2, ← hlo] at k1
      rw [← hW2, ← hlo]
      obtain ⟨⟨b4, b5, b6⟩, hs2, hB2⟩ := k1
      rw [← hlo] at hXs
      have hl1 : lo ≤ wr.heap.size := by omega
      have hl2 : wr.heap.size ≤ lo := by omega
      clear hXs
      have hB2' : Below w.heap.size w W2 := (HW0.out.2.2.2.trans (HBW.out.mono (by omega))).trans ((xB.mono (by omega)).trans (hB2.mono (by omega)))
      have hst2 : SeqStopsK F (4 - 1) Try.prog 37 #[.pointer (some ⟨lo + 1, 0, none⟩), .pointer (some ⟨lo, 0, none⟩), .pointer (some ⟨lo + 2, 0, none⟩)] _ _ _ _ _ W2 :=
        plines_stops F (4 - 1) HF.out (by omega) lo w.heap.size j c A ps wd ind hjl HV.out HFF.out W2 (by omega) b4 b5 b6 (HP.out.below hB2')
      have HST := Lib.hid hst2
      have z1 : W2.heap[t + 1]? = some (.cells #[.slice (some ⟨t, 0, none⟩) (ps.length + 1) (ps.length + 1)] 27 (0, 0)) := (hB2.block _ (by omega)).trans ((xo _ (by omega)).trans HT1.out)
      have z2 : W2.heap[bI]? = some (.cells #[.int .i64 (j : Int)] 3 (0, 0)) := by
        have := HI.out
        rw [HJD.out.1] at this
        exact (hB2.block _ (by omega)).trans ((xo _ (by omega)).trans this)
      have z3 : W2.heap[t]? = some (.cells (cs.setIfInBounds j (.int .i64 (ps.length : Int))) 3 (0, 0)) := (hB2.block _ (by omega)).trans x0
      have zo : ∀ k, k < wr.heap.size → k ≠ t → W2.heap[k]? = wr.heap[k]? := fun k hk hne => (hB2.block k (by omega)).trans (xo k hne)
      have zB : Below t wr W2 := xB.trans (hB2.mono (by omega))
      have HZ := Lib.hid (And.intro (And.intro z1 z2) (And.intro z3 (And.intro zo zB)))
      obtain ⟨T, hT⟩ : ∃ T, fewF ps.length (gG ps wd ind) d = T := ⟨_, rfl⟩
      have hTn : ∀ k, T k ≤ ps.length := fun k => by rw [← hT]; exact fewF_le _ _ _ _
      have hcsT := HCS.out.2
      rw [hT] at hcsT
      have HTT := Lib.hid (And.intro hT (And.intro hTn hcsT))
      have HS2 := Lib.hid hs2
      clear hst2 z1 z2 z3 zo zB x0 xo xB b4 b5 b6 hB2 hB2' hW2 hlo s0 c0 z0 p0 p1 p2 i0 hT hTn hcsT X
      refine wpIn_rangeFunc_ownG hro (by omega) (gf := 37) (lb := #[.pointer (some ⟨lo + 1, 0, none⟩), .pointer (some ⟨lo, 0, none⟩), .pointer (some ⟨lo + 2, 0, none⟩)]) rfl (hfn _) (enters_of Try.func37 (by kernel_rfl) rfl)
        HST.out (fun a b => a.trans b) (Keep.put (by omega) (by omega)) (Below.refl _ _) (fun _ => rfl)
        (fun pre W => W.heap[t]? = some (.cells (cs.setIfInBounds j (.int .i64 (fewL ps.length T (pre.map Subtype.val) : Int))) 3 (0, 0)) ∧ W2.grownBy W (some t))
        (fun _ _ _ => False)
        (OwnFrom.and (cells_from (β := List (LEnd (gG ps wd ind) j ps.length)) t 3 (fun pre => cs.setIfInBounds j (.int .i64 (fewL ps.length T (pre.map Subtype.val) : Int))) _) (grown_from (by omega)))
        (fun _ _ _ _ _ hs _ _ => hs)
        ⟨HZ.out.2.1, ⟨rfl, rfl, rfl, Nat.le_refl _, fun _ _ _ => rfl⟩⟩
        (fun x => { tmps := #[.slice A ps.length c, .int .i64 wd, .int .i64 ind, undef, undef, undef, .int .i64 0, .int .i64 0, .pointer (some ⟨w.heap.size, 0, none⟩), .int .i64 (ps.length : Int), .pointer (some ⟨t + 1, 0, none⟩), .pointer (some ⟨bI, 0, none⟩), .int .i64 (x.val : Int), .slice A ps.length c, .int .i64 wd, .int .i64 ind,
          .agg #[.slice A ps.length c, .int .i64 wd, .int .i64 ind], .agg #[.slice A ps.length c, .int .i64 wd, .int .i64 ind], .bool true, .bool false, .slice A ps.length c, .int .i64 (ps.length : Int), .int .i64 (ps.length : Int), .int .i64 ((ps.length : Int) + 1), .slice (some ⟨t, 0, none⟩) (ps.length + 1) (ps.length + 1), .int .i64 (ps.length : Int), .int .i64 ((ps.length : Int) - 1),
          .int .i64 (j : Int), .bool true, u29, u30, .slice (some ⟨t, 0, none⟩) (ps.length + 1) (ps.length + 1), .int .i64 (j : Int), .int .i64 (ps.length : Int), .pointer (some ⟨t, j, none⟩), .agg #[.slice A ps.length c, .int .i64 wd, .int .i64 ind], .int .i64 (j : Int),
          .func (.func 37) #[] #[.pointer (some ⟨lo + 1, 0, none⟩), .pointer (some ⟨lo, 0, none⟩), .pointer (some ⟨lo + 2, 0, none⟩)],
          .int .i64 (x.val : Int), .int .i64 (cC ps wd ind j x.val), undef, undef, undef, undef, undef, undef, undef, undef, undef, undef, undef, undef, undef, u53, undef, undef, undef], defers := [] }) ?assign ?body ?done ?stop
      case assign =>
        intro l x W K hK
        gi_wp2
        exact hK
      case body =>
        rintro l pre x W ⟨hw, hg⟩ _
        have HG := Lib.hid hg
        have hgs := hg.size
        rw [HS2.out] at hgs
        clear hg
        obtain ⟨x, hx1, hx2, hx3⟩ := x
        have g1 := (HG.out.block (t + 1) (by rw [HS2.out]; omega) (by simp)).trans HZ.out.1.1
        have g2 := (HG.out.block bI (by rw [HS2.out]; omega) (by simp; omega)).trans HZ.out.1.2
        have hjs : j < cs.size := (Array.getElem?_eq_some_iff.1 (HTT.out.2.2 j (by omega))).1
        have y0 : ∀ v : Bel W.heap.size W, v.v.cell? ⟨t + 1, 0, none⟩ = some (.slice (some ⟨t, 0, none⟩) (ps.length + 1) (ps.length + 1)) := fun v => (v.h.cell (p := ⟨t + 1, 0, none⟩) (by show t + 1 < _; omega)).trans (blk_cell g1 0 _ rfl)
        have y1 : ∀ v : Bel W.heap.size W, v.v.cell? ⟨bI, 0, none⟩ = some (.int .i64 (j : Int)) := fun v => (v.h.cell (p := ⟨bI, 0, none⟩) (by show bI < _; omega)).trans (blk_cell g2 0 _ rfl)
        have y2 : ∀ v : Bel W.heap.size W, v.v.cell? ⟨t, j, none⟩ = some (.int .i64 (fewL ps.length T (pre.map Subtype.val) : Int)) := fun v => (v.h.cell (p := ⟨t, j, none⟩) (by show t < _; omega)).trans (blk_cell hw j _ (set_self hjs _))
        have y3 : ∀ v : Bel W.heap.size W, v.v.cell? ⟨t, x, none⟩ = some (.int .i64 (T x : Int)) := fun v => (v.h.cell (p := ⟨t, x, none⟩) (by show t < _; omega)).trans (blk_cell hw x _ (by rw [Array.getElem?_setIfInBounds, if_neg (by omega)]; exact HTT.out.2.2 x (by omega)))
        have HSN := Lib.hid (fewL_snoc ps.length T (pre.map Subtype.val) x)
        have hf1 := fewL_le ps.length T (pre.map Subtype.val)
        have hf2 := HTT.out.2.1 x
        generalize hbst : fewL ps.length T (pre.map Subtype.val) = bst at y2 HSN hf1 hw
        have HW := Lib.hid hw
        clear hbst hw g1 g2
        have s1 : IntKind.i64.wrap ((T x : Int) + 1) = (T x : Int) + 1 := IntWalk.i64_in _ (by omega)
        have q1 : (j : Int) < (ps.length : Int) + 1 := by omega
        have q2 : (x : Int) < (ps.length : Int) + 1 := by omega
        have q3 : j < ps.length + 1 := by omega
        have q4 : x < ps.length + 1 := by omega
        dsimp only
        gi_wp2_with fail
        rw [HF.out]
        refine wpIn_region_round 13 _ (fun W' => ∃ v : Bel W.heap.size W, W' = v.v) (by kernel_rfl) (by kernel_rfl) (by kernel_rfl) rfl ⟨⟨_, (Below.refl _ _).drew⟩, rfl⟩ ?_
        simp only [List.take_succ_cons, List.take_zero]
        repeat (go_big_quiet_step (fail))
        clear y0 y1 y2 y3
        refine wpQuiet_nil ?_
        rintro w' ⟨v, rfl⟩
        have f4 := (v.h.block t (by omega)).trans HW.out
        have g0 := blk_cell f4 j _ (set_self hjs _)
        have z0 := blk_free f4 j
        have H4 := Lib.hid f4
        clear f4
        refine ⟨fun _ _ => trivial, ?_⟩
        rw [Oper.semAt_eq _ _ _ (fun c h => by cases h)]
        obtain ⟨V, hV⟩ : ∃ V, V = v.v := ⟨_, rfl⟩
        rw [← hV] at g0 z0 ⊢
        simp [go_sem, g0, z0, Exit.inBlock]
        subst hV
        have hmin : (if (T x : Int) + 1 < (bst : Int) then (T x : Int) + 1 else (bst : Int)) = ((fewL ps.length T (pre.map Subtype.val ++ [x]) : Nat) : Int) := by
          rw [HSN.out]
          split <;> omega
        rw [hmin]
        refine ⟨(keepsFrom_below v.h).trans ((KeepsOthers.setCell _ _ _).from _), (Keep.of_below v.h (by omega) (by omega)).setCell (p := ⟨t, j, none⟩) (by show w.heap.size ≤ t; omega) (.inl (by show t < lo; omega)) _, ?_, ?_⟩
        · have := blk_set H4.out j (.int .i64 ((fewL ps.length T (pre.map Subtype.val ++ [x]) : Nat) : Int))
          rw [Array.setIfInBounds_setIfInBounds] at this
          rw [List.map_append]
          exact this
        · exact ⟨v.h.os.trans HG.out.os, v.h.tape.trans HG.out.tape, v.h.output.trans HG.out.output, by have := v.h.size; simp only [World.setCell, Array.size_modify]; omega, fun k hk hne => (Below.heap_setCell _ _ _ _ (by show k ≠ t; intro e; exact hne (by rw [e]))).trans ((v.h.block k (by omega)).trans (HG.out.block k hk hne))⟩
      case done =>
        rintro D ys W hD hys ⟨hw, hg⟩ hDk
        have hgs := hg.size
        rw [HS2.out] at hgs hD
        have g1 := (hg.block bI (by rw [HS2.out]; omega) (by simp; omega)).trans HZ.out.1.2
        have i0 := blk_cell g1 0 _ rfl
        have zi := blk_free g1 0
        have hbl : bI < W.heap.size := by omega
        have HG := Lib.hid hg
        have HW := Lib.hid hw
        have HDK := Lib.hid hDk
        have HYS := Lib.hid hys
        have HG1 := Lib.hid g1
        clear hw hg hDk hys g1
        gi_wp2
        refine HK.out _ _ ⟨ps.length - (d + 1), by omega, HJ.out _ _ _ ⟨d + 1, cs.setIfInBounds j (.int .i64 (fewL ps.length T (ys.map Subtype.val) : Int)), W.heap.size, D :: Ds, _, _, _, _, _, _, _, _, _, _, _, _, by omega, rfl, rfl, ⟨?_, ?_⟩, ?_, ⟨by omega, ?_⟩, ⟨?_, ?_⟩, ?_⟩⟩
        · exact blk_more HW.out _
        · refine HCS.out.2.set (by omega) _ (fun k hk => ?_)
          have hE : fewL ps.length T (ys.map Subtype.val) = fewE ps.length (gG ps wd ind) T j (ps.length - j) := by rw [HYS.out, fewL_legs]
          show (if k = ps.length - 1 - d then fewE ps.length (gG ps wd ind) (fewF ps.length (gG ps wd ind) d) k (ps.length - k) else fewF ps.length (gG ps wd ind) d k) = _
          rw [← HJD.out.2, hE, HTT.out.1]
          by_cases e : k = j
          · subst e; simp only [if_true]
          · simp only [if_neg e]
        · exact blk_more ((HG.out.block (t + 1) (by rw [HS2.out]; omega) (by simp)).trans HZ.out.1.1) _
        · have := blk_new W (.cells #[.int .i64 ((j : Int) - 1)] 3)
          rw [show (ps.length : Int) - 1 - ((d + 1 : Nat) : Int) = (j : Int) - 1 by have := HJD.out.1; omega]
          exact this
        · intro E hE
          rcases List.mem_cons.1 hE with rfl | hE
          · exact ⟨by omega, blk_more HDK.out _⟩
          · obtain ⟨e1, e2⟩ := HDS.out.1 E hE
            have hEl := (Array.getElem?_eq_some_iff.1 e2).1
            exact ⟨e1, blk_more ((HG.out.block E (by rw [HS2.out]; omega) (by simp; omega)).trans ((HZ.out.2.2.1 E hEl (by omega)).trans e2)) _⟩
        · refine List.nodup_cons.2 ⟨fun hE => ?_, HDS.out.2⟩
          have hEl := (Array.getElem?_eq_some_iff.1 (HDS.out.1 D hE).2).1
          omega
        · exact (HBW.out.trans (HZ.out.2.2.2.trans (show Below t W2 W from ⟨HG.out.os, HG.out.tape, HG.out.output, HG.out.size, fun k hk => HG.out.block k (by rw [HS2.out]; omega) (by simp; omega)⟩))).alloc (by omega) _
      case stop =>
        rintro D k pre W hD _ h _
        exact h.elim
    · obtain rfl : d = ps.length := by omega
      rw [show (ps.length : Int) - 1 - (ps.length : Int) = -1 by omega] at i0
      have s0 := blk_cell HT1.out 0 _ rfl
      have c0 := blk_cell HCS.out.1 0 _ (HCS.out.2 0 (by omega))
      gi_wp2
      refine leaves_marks (s := w.heap.size) Ds wr (fun D hD => ⟨by have := (HDS.out.1 D hD).1; omega, (HDS.out.1 D hD).2⟩) HDS.out.2 (fun w' hw' => ?_)
      refine ⟨.tuple #[.int .i64 (fewT ps.length (gG ps wd ind) 0 : Int), .int .i64 0], ?_, rfl, ?_⟩
      · simp [results, Try.f17, go_sem, fewT]
      · exact (HW0.out.2.2.2.trans (HBW.out.mono (by omega))).trans hw'
theorem Fewest_no (A : Option Addr) (c : Nat) (ps : List Pc) (wd ind : Int) (w : World) (hp : parB ps wd ind = false) (hm : ps.length ≤ lenMax) (hP : Pcs w w.heap.size A ps) :
    Calls Try.prog 17 #[.slice A ps.length c, .int .i64 wd, .int .i64 ind] w fun e w' => e = .returned (.tuple #[.int .i64 0, .int .i64 1]) ∧ Below w.heap.size w w' := by
  have HM := Lib.hid hm
  have HP := Lib.hid hP
  have HQ := Lib.hid hp
  clear hm hP hp
  have HB : Hid (Below w.heap.size w (w.alloc (.cells #[.slice A ps.length c, .int .i64 wd, .int .i64 ind] 46))) := (Below.refl _ _).alloc (Nat.le_refl _) _
  go_enter Try.func17, Try.ntmps17
  go_wp2_with fail
  refine (pvalid_at _ _ ps _ _ _ HQ.out HM.out (HP.out.next HB.out)).mono ?_
  rintro e w1 ⟨rfl, hb1⟩
  go_wp2
  go_ret2
  exact ⟨rfl, below_next HB.out hb1⟩
end Go.Proofs.Ytogkjaohphnflaa
