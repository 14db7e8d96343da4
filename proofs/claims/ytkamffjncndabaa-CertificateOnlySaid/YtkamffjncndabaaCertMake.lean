/- certificate.Make. -/
import Derived.Test.YtkamffjncndabaaCertSeq
import Derived.Test.YtkamffjncndabaaCertPlain
import Derived.Test.YtkamffjncndabaaCertValid
import Derived.Test.YtkamffjncndabaaRoundStill
namespace Go.Proofs.Ytkamffjncndabaa
open Go.RowKit
attribute [local go_sem] Oper.semAt_some
def mkStep (C : Nat → Nat → Int) (G : Nat → Nat → Bool) (T : Nat → Int) (x : Nat × Nat) : Nat → Int :=
  if G x.1 x.2 = true ∧ (x.2 = x.1 + 1 ∨ C x.1 x.2 + T x.2 < T x.1) then fun k => if k = x.1 then C x.1 x.2 + T x.2 else T k else T
def mkF (C : Nat → Nat → Int) (G : Nat → Nat → Bool) (l : List (Nat × Nat)) : Nat → Int := l.foldl (mkStep C G) (fun _ => 0)
theorem mkF_snoc (C : Nat → Nat → Int) (G : Nat → Nat → Bool) (l : List (Nat × Nat)) (x : Nat × Nat) : mkF C G (l ++ [x]) = mkStep C G (mkF C G l) x := by
  unfold mkF
  rw [List.foldl_append]
  rfl
theorem mk_row (C : Nat → Nat → Int) (G : Nat → Nat → Bool) (T : Nat → Int) (i : Nat) : ∀ c : Nat, (rowL i c).foldl (mkStep C G) T = fun k => if k = i then potE C G T i (T i) c else T k
  | 0 => by
    funext k
    show T k = if k = i then T i else T k
    by_cases e : k = i
    · subst e; rw [if_pos rfl]
    · rw [if_neg e]
  | c + 1 => by
    have ih := mk_row C G T i c
    unfold rowL
    rw [List.foldl_append, ih, List.foldl_cons, List.foldl_nil]
    unfold mkStep
    have hne : ¬ i + 1 + c = i := by omega
    have hc : (i + 1 + c = i + 1) = (c = 0) := by apply propext; omega
    simp only [if_neg hne, if_pos, hc]
    funext k
    have e : potE C G T i (T i) (c + 1) = if G i (i + 1 + c) = true ∧ (c = 0 ∨ C i (i + 1 + c) + T (i + 1 + c) < potE C G T i (T i) c) then C i (i + 1 + c) + T (i + 1 + c) else potE C G T i (T i) c := rfl
    rw [e]
    by_cases h : G i (i + 1 + c) = true ∧ (c = 0 ∨ C i (i + 1 + c) + T (i + 1 + c) < potE C G T i (T i) c)
    · rw [if_pos h, if_pos h]
      by_cases e2 : k = i
      · rw [if_pos e2, if_pos e2]
      · rw [if_neg e2, if_neg e2, if_neg e2]
    · rw [if_neg h, if_neg h]
theorem mk_pairs {ps : List Pc} {wd ind : Int} : ∀ d, d ≤ ps.length → ∀ j, ps.length - d ≤ j → j ≤ ps.length → mkF (cC ps wd ind) (gG ps wd ind) (pairsL ps.length d) j = pT ps wd ind j
  | 0, _, j, h1, h2 => by
    obtain rfl : j = ps.length := by omega
    rw [pT_end]
    rfl
  | d + 1, hd, j, h1, h2 => by
    have ih := mk_pairs (ps := ps) (wd := wd) (ind := ind) d (by omega)
    have e : mkF (cC ps wd ind) (gG ps wd ind) (pairsL ps.length (d + 1)) = (rowL (ps.length - 1 - d) (d + 1)).foldl (mkStep (cC ps wd ind) (gG ps wd ind)) (mkF (cC ps wd ind) (gG ps wd ind) (pairsL ps.length d)) := by
      unfold mkF
      rw [← List.foldl_append]
      rfl
    rw [e, mk_row]
    dsimp only
    by_cases h : j = ps.length - 1 - d
    · rw [if_pos h]
      subst h
      have hd1 : d + 1 = ps.length - (ps.length - 1 - d) := by omega
      have := potE_pT (ps := ps) (wd := wd) (ind := ind) (T := mkF (cC ps wd ind) (gG ps wd ind) (pairsL ps.length d)) (z := mkF (cC ps wd ind) (gG ps wd ind) (pairsL ps.length d) (ps.length - 1 - d)) (show ps.length - 1 - d < ps.length by omega) (fun k a b => ih k (by omega) b)
      rw [← hd1] at this
      exact this
    · rw [if_neg h]
      exact ih j (by omega) h2
theorem mk_bound {n : Nat} {C : Nat → Nat → Int} {G : Nat → Nat → Bool} {M : Int} (hM : 0 ≤ M) (hC : ∀ i j, i < j → j ≤ n → -M ≤ C i j ∧ C i j ≤ M) : ∀ (l : List (PE n)) (k : Nat),
    -(M * (l.length : Int)) ≤ mkF C G (l.map Subtype.val) k ∧ mkF C G (l.map Subtype.val) k ≤ M * (l.length : Int) := by
  intro l
  rw [← List.reverse_reverse l]
  generalize l.reverse = r
  induction r with
  | nil => intro k; show -(M * ((0 : Nat) : Int)) ≤ 0 ∧ (0 : Int) ≤ M * ((0 : Nat) : Int); simp
  | cons x r ih =>
    intro k
    rw [List.reverse_cons, List.map_append, List.length_append, List.map_cons, List.map_nil, mkF_snoc]
    have e : M * ((r.reverse.length + [x].length : Nat) : Int) = M * (r.reverse.length : Int) + M := by
      rw [show ((r.reverse.length + [x].length : Nat) : Int) = (r.reverse.length : Int) + 1 by simp, Int.mul_add, Int.mul_one]
    rw [e]
    have h1 := ih k
    have h2 := ih x.val.2
    have h3 := hC x.val.1 x.val.2 x.property.1 x.property.2
    unfold mkStep
    split
    · dsimp only
      split
      · omega
      · omega
    · omega
def IntC (cs : Array Value) (n : Nat) (T : Nat → Int) : Prop := ∀ k, k ≤ n → cs[k]? = some (.int .i64 (T k))
theorem IntC.set {cs : Array Value} {n j : Nat} {T T' : Nat → Int} (h : IntC cs n T) (hj : j ≤ n) (x : Int) (e : ∀ k, k ≤ n → T' k = if k = j then x else T k) : IntC (cs.setIfInBounds j (.int .i64 x)) n T' := fun k hk => by
  have b := (Array.getElem?_eq_some_iff.1 (h k hk)).1
  rw [Array.getElem?_setIfInBounds, e k hk]
  by_cases h1 : k = j
  · subst h1; rw [if_pos rfl, if_pos b, if_pos rfl]
  · rw [if_neg (fun x => h1 x.symm), if_neg h1]; exact h k hk
theorem IntC.congr {cs : Array Value} {n : Nat} {T T' : Nat → Int} (h : IntC cs n T) (e : ∀ k, k ≤ n → T k = T' k) : IntC cs n T' := fun k hk => by rw [← e k hk]; exact h k hk
theorem make_ints (n : Nat) (hn : n ≤ 1000) (W : World) : (Instr.makeSlice 26 (.int .i64 ((n : Int) + 1)) (.int .i64 ((n : Int) + 1))).run Try.prog W =
    .ok (.slice (some ⟨W.heap.size, 0, none⟩) (n + 1) (n + 1)) (W.alloc (.cells (madeCells #[.int .i64 0] (n + 1)) 3)) := by
  obtain ⟨i, hi, hz, hs, hb⟩ := info_parts infoI
  have h := run_make (P := Try.prog) W 26 3 i (.int .i64 0) Try.underlying26 hi hz .i64 .i64 ((n : Int) + 1) ((n : Int) + 1) (by omega) (by omega) (by rw [hb]; omega) (by omega)
  rw [hs, show ((n : Int) + 1).toNat = n + 1 by omega, Nat.mul_one] at h
  exact h
theorem intC_made (n : Nat) : IntC (madeCells #[.int .i64 0] (n + 1)) n (fun _ => 0) := fun k hk => by
  simp [madeCells, Nat.mod_one, show k < n + 1 by omega]
theorem grown_from {β : Type} {B t : Nat} {w₀ : World} (hB : w₀.heap.size ≤ B) : OwnFrom B (fun (_ : β) W => w₀.grownBy W (some t)) := fun _ W W' row h hg hr =>
  ⟨hg.os.trans h.os, hg.tape.trans h.tape, hg.output.trans h.output, Nat.le_trans h.size hg.size, fun k hk hne => (hg.block k (Nat.lt_of_lt_of_le hk h.size) (fun e => by have := (hr k e.symm).1; omega)).trans (h.block k hk hne)⟩
theorem below_grown {W W' : World} (h : Below W.heap.size W W') (r : Option Nat) : W.grownBy W' r := ⟨h.os, h.tape, h.output, h.size, fun k hk _ => h.block k hk⟩
theorem grown_trans {a b c : World} {r : Option Nat} (h : a.grownBy b r) (k : b.grownBy c r) : a.grownBy c r :=
  ⟨k.os.trans h.os, k.tape.trans h.tape, k.output.trans h.output, Nat.le_trans h.size k.size, fun i hi hne => (k.block i (Nat.lt_of_lt_of_le hi h.size) hne).trans (h.block i hi hne)⟩
theorem grown_set {a b : World} {p : Addr} (h : a.grownBy b (some p.block)) (v : Value) : a.grownBy (b.setCell p v) (some p.block) :=
  ⟨h.os, h.tape, h.output, by simp only [World.setCell, Array.size_modify]; exact h.size, fun i hi hne => (Below.heap_setCell _ _ _ _ (fun e => hne (by rw [e]))).trans (h.block i hi hne)⟩
def MakeTo (l : List Int) (E : Int) (w : World) (e : Ending) (w' : World) : Prop :=
  (∃ A' c', e = .returned (.tuple #[.slice A' l.length c', .int .i64 E]) ∧ Ints w' w'.heap.size A' l) ∧ Below w.heap.size w w'
set_option maxRecDepth 100000 in
set_option maxHeartbeats 2000000 in
theorem Make_yes (A : Option Addr) (c : Nat) (ps : List Pc) (wd ind : Int) (w : World) (hp : parB ps wd ind = true) (hP : Pcs w w.heap.size A ps) :
    Calls Try.prog 11 #[.slice A ps.length c, .int .i64 wd, .int .i64 ind] w (MakeTo (potL ps wd ind) 0 w) := by
  have hv := (parB_iff.1 hp).1
  have hf := (parB_iff.1 hp).2
  have h64 := (validB_iff.1 hv).1.2
  have h1 := (validB_iff.1 hv).1.1
  have HM : Hid (ps.length ≤ lenMax) := by show _ ≤ _; unfold lenMax; omega
  have HQ := Lib.hid hp
  have HV := Lib.hid hv
  have HFF := Lib.hid hf
  have HP := Lib.hid hP
  clear hv hf hP hp
  refine (callsIn_wide (n := 4)).1 ?_
  obtain ⟨F, hF⟩ : ∃ F, F = Fence.wide := ⟨_, rfl⟩
  have hro : F.round = none := by rw [hF]; rfl
  have hfn : ∀ k, F.fn k := fun k => by rw [hF]; trivial
  rw [← hF]
  have HF := Lib.hid hF
  clear hF
  have hmi := make_ints ps.length (by omega)
  have e0 : IntKind.i64.wrap ((ps.length : Int) + 1) = (ps.length : Int) + 1 := IntWalk.i64_in _ (by omega)
  have HB : Hid (Below w.heap.size w (w.alloc (.cells #[.slice A ps.length c, .int .i64 wd, .int .i64 ind] 54))) := (Below.refl _ _).alloc (Nat.le_refl _) _
  refine callsIn_of_wp_marks Try.func11 rfl (hfn _) ?_ hro
  simp only [Try.ntmps11, List.size_toArray, List.length_cons, List.length_nil, Nat.reduceAdd, Nat.reduceSub, Array.replicate_succ, Array.replicate_zero, List.push_toArray, List.append_toArray, List.nil_append, List.cons_append]
  gi_wp2_with (gi_at_call 24; refine (inWide HF.out (cvalid_at _ _ ps _ _ _ HQ.out HM.out (HP.out.next HB.out))).mono ?_; rintro e w1 ⟨rfl, hb1⟩; have HB1 : Hid (Below w.heap.size w w1) := below_next HB.out hb1; have hbP := Lib.hid ((hb1.block w.heap.size (by simp)).trans (World.alloc_heap_new w _)); have f0 := kept_box hb1 0 _ rfl; have f1 := kept_box hb1 1 _ rfl; have f2 := kept_box hb1 2 _ rfl; have hlt1 : w.heap.size < w1.heap.size := (by have := hb1.size; simp at this; omega); clear hb1)
  gi_wp2_with (gi_at_call 25; refine (clines_in F (4 - 1) HF.out _ _ _ _ _ _).mono ?_; rintro e w' ⟨rfl, rfl⟩)
  obtain ⟨t, ht⟩ : ∃ t, t = w1.heap.size := ⟨_, rfl⟩
  have kb := boxes3 w1 (.cells (madeCells #[.int .i64 0] (ps.length + 1)) 3) (.cells #[.slice (some ⟨t, 0, none⟩) (ps.length + 1) (ps.length + 1)] 26) (.cells #[.slice A ps.length c, .int .i64 wd, .int .i64 ind] 54)
  rw [← ht] at kb hlt1 ⊢
  simp only [Nat.add_assoc, Nat.reduceAdd]
  generalize (((w1.alloc (.cells (madeCells #[.int .i64 0] (ps.length + 1)) 3)).alloc (.cells #[.slice (some ⟨t, 0, none⟩) (ps.length + 1) (ps.length + 1)] 26)).alloc (.cells #[.slice A ps.length c, .int .i64 wd, .int .i64 ind] 54)) = W2 at kb ⊢
  obtain ⟨⟨k0, k1, k2⟩, ks, kB⟩ := kb
  have hP0 : W2.heap[w.heap.size]? = some (.cells #[.slice A ps.length c, .int .i64 wd, .int .i64 ind] 54 (0, 0)) := (kB.block _ hlt1).trans hbP.out
  have hW2 : Below w.heap.size w W2 := HB1.out.trans (kB.mono (by omega))
  have hst2 : SeqStopsK F (4 - 1) Try.prog 38 #[.pointer (some ⟨t + 2, 0, none⟩)] _ _ _ _ _ W2 :=
    clines_stops F (4 - 1) HF.out (by omega) (t + 2) w.heap.size ps.length c A wd ind h64 W2 (by omega) k2
  have HST := Lib.hid hst2
  have HK := Lib.hid (And.intro (And.intro k0 k1) (And.intro hP0 hW2))
  have HS2 := Lib.hid ks
  have ks1 : t + 3 ≤ W2.heap.size := by omega
  clear hst2 k0 k1 k2 ks kB hP0 hW2 f0 f1 f2 hmi e0 ht
  refine wpIn_rangeFunc_ownG hro (by omega) (gf := 38) (lb := #[.pointer (some ⟨t + 2, 0, none⟩)]) rfl (hfn _) (enters_of Try.func38 (by kernel_rfl) rfl)
    HST.out (fun a b => a.trans b) (Keep.put (by omega) (by omega)) (Below.refl _ _) (fun _ => rfl)
    (fun pre W => (∃ cs, W.heap[t]? = some (.cells cs 3 (0, 0)) ∧ IntC cs ps.length (mkF (cC ps wd ind) (gG ps wd ind) (pre.map Subtype.val))) ∧ W2.grownBy W (some t))
    (fun _ _ _ => False)
    (OwnFrom.and (fun pre W W' row h hg hr => by obtain ⟨cs, h1, h2⟩ := h; exact ⟨cs, heap_from (β := Unit) t _ cs 3 () W W' row h1 hg hr, h2⟩) (grown_from (by omega)))
    (fun _ _ _ _ _ hs _ _ => hs)
    ⟨⟨_, HK.out.1.1, intC_made _⟩, ⟨rfl, rfl, rfl, Nat.le_refl _, fun _ _ _ => rfl⟩⟩
    (fun x => { tmps := #[.slice A ps.length c, .int .i64 wd, .int .i64 ind, undef, undef, undef, .slice none 0 0, .int .i64 0, .pointer (some ⟨w.heap.size, 0, none⟩), .pointer (some ⟨t + 1, 0, none⟩), .int .i64 (x.val.1 : Int), .int .i64 (x.val.2 : Int), undef, undef, undef,
      .slice A ps.length c, .int .i64 wd, .int .i64 ind, .agg #[.slice A ps.length c, .int .i64 wd, .int .i64 ind], .agg #[.slice A ps.length c, .int .i64 wd, .int .i64 ind], .bool true, .bool false, .slice A ps.length c, .int .i64 (ps.length : Int), .int .i64 ((ps.length : Int) + 1),
      .slice (some ⟨t, 0, none⟩) (ps.length + 1) (ps.length + 1), .agg #[.slice A ps.length c, .int .i64 wd, .int .i64 ind], .func (.func 38) #[] #[.pointer (some ⟨t + 2, 0, none⟩)], .int .i64 (x.val.1 : Int), .int .i64 (x.val.2 : Int), undef, undef, undef, undef, undef, undef, undef, undef, undef, undef, undef, undef, undef, undef, undef, undef, undef, undef, undef, undef, undef, undef, undef, undef, undef, undef, undef, undef, undef, undef, undef, undef], defers := [] }) ?assign ?body ?done ?stop
  case assign =>
    intro l x W K hK
    gi_wp2
    exact hK
  case body =>
    rintro l pre x W ⟨⟨cs, hcs, hic⟩, hg⟩ hpl
    obtain ⟨⟨i, j⟩, hij, hjn⟩ := x
    replace hij : i < j := hij
    replace hjn : j ≤ ps.length := hjn
    have hgs := hg.size
    have hbd : ∀ k, -5000000000000 ≤ mkF (cC ps wd ind) (gG ps wd ind) (pre.map Subtype.val) k ∧ mkF (cC ps wd ind) (gG ps wd ind) (pre.map Subtype.val) k ≤ 5000000000000 := fun k => by
      have h := mk_bound (n := ps.length) (C := cC ps wd ind) (G := gG ps wd ind) (M := 1000000000) (by omega) (fun i j a b => cC_bound HV.out HFF.out (by omega) b) pre k
      have h2 : ps.length * ps.length ≤ 64 * 64 := Nat.mul_le_mul h64 h64
      omega
    have HSN := Lib.hid (mkF_snoc (cC ps wd ind) (gG ps wd ind) (pre.map Subtype.val) (i, j))
    obtain ⟨T, hT⟩ : ∃ T, mkF (cC ps wd ind) (gG ps wd ind) (pre.map Subtype.val) = T := ⟨_, rfl⟩
    rw [hT] at hbd hic HSN
    have hbi := hbd i
    have hbj := hbd j
    have hCb := cC_bound HV.out HFF.out (i := i) (j := j) (by omega) hjn
    have HG := Lib.hid hg
    have HIC := Lib.hid (And.intro hcs hic)
    have hPX : Hid (Pcs W W.heap.size A ps) := by
      show Pcs _ _ _ _
      exact (HP.out.below (HK.out.2.2.trans (show Below w.heap.size W2 W from ⟨hg.os, hg.tape, hg.output, hg.size, fun k hk => hg.block k (by omega) (by simp; omega)⟩))).mono (by omega)
    have g1 := (hg.block (t + 1) (by omega) (by simp)).trans HK.out.1.2
    have g2 := (hg.block w.heap.size (by omega) (by simp; omega)).trans HK.out.2.1
    have p0 := blk_cell g2 0 _ rfl
    have p1 := blk_cell g2 1 _ rfl
    have p2 := blk_cell g2 2 _ rfl
    have HG1 := Lib.hid g1
    clear hg hcs hic hT g1 g2 hbd hpl
    obtain ⟨r, hr⟩ : ∃ r, gG ps wd ind i j = r := ⟨_, rfl⟩
    have HR := Lib.hid hr
    have hDem := fun X hX => dems_any A c ps wd ind (i : Int) (j : Int) X (by omega) (by omega) (by omega) HV.out HFF.out hX (r := r) (by rw [Int.toNat_natCast, Int.toNat_natCast]; exact hr)
    simp only [Int.toNat_natCast] at hDem
    have HDEM := Lib.hid hDem
    clear hr hDem
    dsimp only
    cases r
    · gi_wp2_with (gi_at_call 26; refine (inWideRound HF.out (HDEM.out _ hPX.out)).mono ?_; rintro e w5 ⟨rfl, hb5⟩; simp only [cond_false])
      refine ⟨keepsFrom_below hb5, Keep.of_below hb5 (by omega) (by omega), ⟨cs, (hb5.block t (by omega)).trans HIC.out.1, ?_⟩, grown_trans HG.out (below_grown hb5 _)⟩
      rw [List.map_append]
      refine HIC.out.2.congr (fun k _ => ?_)
      show _ = mkF _ _ (pre.map Subtype.val ++ [(i, j)]) k
      rw [HSN.out]
      unfold mkStep
      rw [if_neg (by dsimp only; rw [HR.out]; simp)]
    · have q1 : (i : Int) < (ps.length : Int) + 1 := by omega
      have q2 : (j : Int) < (ps.length : Int) + 1 := by omega
      have q3 : i < ps.length + 1 := by omega
      have q4 : j < ps.length + 1 := by omega
      by_cases hj1 : j = i + 1
      · have HJ1 := Lib.hid hj1
        have b1 : ((j : Int) == (i : Int) + 1) = true := by simp; omega
        clear hj1
        gi_wp2_with (gi_at_call 26; refine (inWideRound HF.out (HDEM.out _ hPX.out)).mono ?_; rintro e w5 ⟨rfl, hb5⟩; simp only [cond_true]; have l0 := blk_cell ((hb5.block (t + 1) (by omega)).trans HG1.out) 0 _ rfl; have lj := blk_cell ((hb5.block t (by omega)).trans HIC.out.1) j _ (HIC.out.2 j hjn); have li := blk_cell ((hb5.block t (by omega)).trans HIC.out.1) i _ (HIC.out.2 i (by omega)); have zi := blk_free ((hb5.block t (by omega)).trans HIC.out.1) i; have HB5 := Lib.hid hb5; clear hb5)
        refine ⟨(keepsFrom_below HB5.out).trans ((KeepsOthers.setCell _ _ _).from _), (Keep.of_below HB5.out (by omega) (by omega)).setCell (p := ⟨t, i, none⟩) (by show w.heap.size ≤ t; omega) (.inl (by show t < t + 2; omega)) _, ⟨_, blk_set ((HB5.out.block t (by omega)).trans HIC.out.1) i _, ?_⟩, ?_⟩
        · rw [List.map_append]
          refine HIC.out.2.set (by omega) _ (fun k _ => ?_)
          show mkF _ _ (pre.map Subtype.val ++ [(i, j)]) k = _
          rw [HSN.out]
          unfold mkStep
          rw [if_pos ⟨HR.out, (.inl HJ1.out)⟩]
        · have h1 : W.grownBy (w5.setCell ⟨t, i, none⟩ (.int .i64 (cC ps wd ind i j + T j))) (some t) := grown_set (p := ⟨t, i, none⟩) (below_grown HB5.out _) _
          exact grown_trans HG.out h1
      · have HJ1 := Lib.hid hj1
        have b1 : ((j : Int) == (i : Int) + 1) = false := by simp; omega
        by_cases hlt : cC ps wd ind i j + T j < T i
        · have HLT := Lib.hid hlt
          gi_wp2_with (gi_at_call 26; refine (inWideRound HF.out (HDEM.out _ hPX.out)).mono ?_; rintro e w5 ⟨rfl, hb5⟩; simp only [cond_true]; have l0 := blk_cell ((hb5.block (t + 1) (by omega)).trans HG1.out) 0 _ rfl; have lj := blk_cell ((hb5.block t (by omega)).trans HIC.out.1) j _ (HIC.out.2 j hjn); have li := blk_cell ((hb5.block t (by omega)).trans HIC.out.1) i _ (HIC.out.2 i (by omega)); have zi := blk_free ((hb5.block t (by omega)).trans HIC.out.1) i; have HB5 := Lib.hid hb5; clear hb5)
          refine ⟨(keepsFrom_below HB5.out).trans ((KeepsOthers.setCell _ _ _).from _), (Keep.of_below HB5.out (by omega) (by omega)).setCell (p := ⟨t, i, none⟩) (by show w.heap.size ≤ t; omega) (.inl (by show t < t + 2; omega)) _, ⟨_, blk_set ((HB5.out.block t (by omega)).trans HIC.out.1) i _, ?_⟩, ?_⟩
          · rw [List.map_append]
            refine HIC.out.2.set (by omega) _ (fun k _ => ?_)
            show mkF _ _ (pre.map Subtype.val ++ [(i, j)]) k = _
            rw [HSN.out]
            unfold mkStep
            rw [if_pos ⟨HR.out, (.inr HLT.out)⟩]
          · have h1 : W.grownBy (w5.setCell ⟨t, i, none⟩ (.int .i64 (cC ps wd ind i j + T j))) (some t) := grown_set (p := ⟨t, i, none⟩) (below_grown HB5.out _) _
            exact grown_trans HG.out h1
        · have HLT := Lib.hid hlt
          gi_wp2_with (gi_at_call 26; refine (inWideRound HF.out (HDEM.out _ hPX.out)).mono ?_; rintro e w5 ⟨rfl, hb5⟩; simp only [cond_true]; have l0 := blk_cell ((hb5.block (t + 1) (by omega)).trans HG1.out) 0 _ rfl; have lj := blk_cell ((hb5.block t (by omega)).trans HIC.out.1) j _ (HIC.out.2 j hjn); have li := blk_cell ((hb5.block t (by omega)).trans HIC.out.1) i _ (HIC.out.2 i (by omega)); have zi := blk_free ((hb5.block t (by omega)).trans HIC.out.1) i; have HB5 := Lib.hid hb5; clear hb5)
          refine ⟨keepsFrom_below HB5.out, Keep.of_below HB5.out (by omega) (by omega), ⟨cs, (HB5.out.block t (by omega)).trans HIC.out.1, ?_⟩, grown_trans HG.out (below_grown HB5.out _)⟩
          rw [List.map_append]
          refine HIC.out.2.congr (fun k _ => ?_)
          show _ = mkF _ _ (pre.map Subtype.val ++ [(i, j)]) k
          rw [HSN.out]
          unfold mkStep
          rw [if_neg]
          rintro ⟨_, h | h⟩
          · exact HJ1.out h
          · have h3 := HLT.out
            have h4 : cC ps wd ind i j + T j < T i := h
            omega
  case done =>
    rintro D ys W hD hys ⟨⟨cs, hcs, hic⟩, hg⟩ hDk
    have hgs := hg.size
    have l0 := blk_cell ((hg.block (t + 1) (by omega) (by simp)).trans HK.out.1.2) 0 _ rfl
    have hIC : IntC cs ps.length (pT ps wd ind) := hic.congr (fun k hk => by rw [hys]; exact mk_pairs ps.length (Nat.le_refl _) k (by omega) hk)
    have HIC := Lib.hid hIC
    have HCS := Lib.hid hcs
    have HDK := Lib.hid hDk
    have HG := Lib.hid hg
    clear hIC hic hcs hDk hg hys
    gi_wp2
    refine ⟨by simp, .inl ⟨_, _, rfl, run_takeDeferred HDK.out, ?_⟩⟩
    refine ⟨.tuple #[.slice (some ⟨t, 0, none⟩) (ps.length + 1) (ps.length + 1), .int .i64 0], ?_, ?_, ?_⟩
    · simp [results, Try.f11, go_sem]
    · refine ⟨some ⟨t, 0, none⟩, ps.length + 1, by rw [potL_len], fun _ => ⟨t, 0, rfl, ?_, fun k hk => ?_⟩⟩
      · simp [World.putObj]; omega
      · rw [potL_len] at hk
        rw [potL_at _ _ _ (by omega), Nat.zero_add]
        refine blk_cell (b := t) (t := 3) ?_ k _ (HIC.out k (by omega))
        exact (World.putObj_heap_other (by omega)).trans HCS.out
    · refine (HK.out.2.2.trans (show Below w.heap.size W2 W from ⟨HG.out.os, HG.out.tape, HG.out.output, HG.out.size, fun k hk => HG.out.block k (by omega) (by simp; omega)⟩)).trans ?_
      exact ⟨rfl, rfl, rfl, by simp [World.putObj], fun k hk => World.putObj_heap_other (by omega)⟩
  case stop =>
    rintro D k pre W hD _ h _
    exact h.elim
theorem Make_no (A : Option Addr) (c : Nat) (ps : List Pc) (wd ind : Int) (w : World) (hp : parB ps wd ind = false) (hm : ps.length ≤ lenMax) (hP : Pcs w w.heap.size A ps) :
    Calls Try.prog 11 #[.slice A ps.length c, .int .i64 wd, .int .i64 ind] w (MakeTo [] 1 w) := by
  have HM := Lib.hid hm
  have HP := Lib.hid hP
  have HQ := Lib.hid hp
  clear hm hP hp
  have HB : Hid (Below w.heap.size w (w.alloc (.cells #[.slice A ps.length c, .int .i64 wd, .int .i64 ind] 54))) := (Below.refl _ _).alloc (Nat.le_refl _) _
  go_enter Try.func11, Try.ntmps11
  go_wp2_with fail
  refine (cvalid_at _ _ ps _ _ _ HQ.out HM.out (HP.out.next HB.out)).mono ?_
  rintro e w1 ⟨rfl, hb1⟩
  go_wp2
  go_ret2
  exact ⟨⟨none, 0, rfl, fun h => absurd h (by simp)⟩, below_next HB.out hb1⟩
/-- What Make answers. -/
def makeL (ps : List Pc) (wd ind : Int) : List Int := if parB ps wd ind = true then potL ps wd ind else []
def makeE (ps : List Pc) (wd ind : Int) : Int := if parB ps wd ind = true then 0 else 1
theorem Make_any (A : Option Addr) (c : Nat) (ps : List Pc) (wd ind : Int) (w : World) (hm : ps.length ≤ lenMax) (hP : Pcs w w.heap.size A ps) :
    Calls Try.prog 11 #[.slice A ps.length c, .int .i64 wd, .int .i64 ind] w (MakeTo (makeL ps wd ind) (makeE ps wd ind) w) := by
  unfold makeL makeE
  cases hp : parB ps wd ind with
  | true => exact Make_yes A c ps wd ind w hp hP
  | false => exact Make_no A c ps wd ind w hp hm hP
end Go.Proofs.Ytkamffjncndabaa
