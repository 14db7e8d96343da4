/- The law on nested rows: plain words. -/
import Derived.Test.YtjckbdbjcgjcaaaLawTight
import Derived.Test.YtjckbdbjcgjcaaaHpNestS
import Derived.Test.YtjckbdbjcgjcaaaBoxFlatP
namespace Go.Proofs.Ytjckbdbjcgjcaaa
open Go.RowKit
def gapN (g : List Int) : Prop := ∀ k, k < g.length → 0 ≤ lAt g k ∧ lAt g k ≤ 65535
theorem gap_sum {g : List Int} (hg : gapN g) : ∀ k, k ≤ g.length → 0 ≤ sumE (lAt g) k ∧ sumE (lAt g) k ≤ 65535 * (k : Int)
  | 0, _ => by simp [sumE]
  | k + 1, h => by
    have h1 := gap_sum hg k (by omega)
    have h2 := hg k (by omega)
    have h3 : sumE (lAt g) (k + 1) = sumE (lAt g) k + lAt g k := rfl
    omega
/-- A row of small kids. -/
theorem nest_row {l : List Bx} {g : List Int} (hs : smallL l) (hc : cntL l ≤ 400) (hn : l.length ≤ 100) (hg : g.length = l.length) (hz : gapN g) :
    rowE l g = 0 ∧ rowR l g = rowB l (plX l (lAt g)) (endX l (lAt g) l.length) ∧ (∀ k, k ≤ l.length → endX l (lAt g) k = sumE (fun j => (kidAt l j).w) k + sumE (lAt g) k) ∧
    (∀ k, k ≤ l.length → -111411200 ≤ endX l (lAt g) k ∧ endX l (lAt g) k ≤ 111411200) ∧ (∀ k, k < l.length → plX l (lAt g) k = endX l (lAt g) k + lAt g k) ∧
    validB (rowB l (plX l (lAt g)) (endX l (lAt g) l.length)) ∧ (0 ≤ maxH l l.length ∧ maxH l l.length ≤ 2097152) ∧ (0 ≤ maxD l l.length ∧ maxD l l.length ≤ 2097152) ∧ nestL l ≤ 90 := by
  have hav := small_all hs
  have hsp : spcOk l g := ⟨hg, fun k hk => by have := hz k hk; unfold rngL; omega⟩
  have he := endX_sum hav hsp (by omega)
  have hb : ∀ k, k ≤ l.length → -111411200 ≤ endX l (lAt g) k ∧ endX l (lAt g) k ≤ 111411200 := fun k hk => by
    have h1 := small_w hs hn hk
    have h2 := gap_sum hz k (by omega)
    rw [he k hk]
    omega
  have hp : ∀ k, k < l.length → plX l (lAt g) k = endX l (lAt g) k + lAt g k := fun k hk => by
    have h1 := hb k (by omega)
    have h2 := hz k (by omega)
    rw [plX, IntWalk.i64_in _ (by omega)]
  have hH := maxH_small (l := l) (K := 2097152) (by omega) (fun i hi => by have := (hs i hi).1; omega) l.length (Nat.le_refl _)
  have hD := maxD_small (l := l) (K := 2097152) (by omega) (fun i hi => by have := (hs i hi).1; omega) l.length (Nat.le_refl _)
  have hnest : nestL l ≤ 90 := nest_le fun i hi => by have := (hs i hi).2.2; omega
  have hval : validB (rowB l (plX l (lAt g)) (endX l (lAt g) l.length)) := rowB_valid (fun i hi => (hav i hi).1) (fun i hi => by
    rw [hp i hi]
    have h1 := hb i (by omega)
    have h2 := hz i (by omega)
    unfold rngL; omega) (by have := hb l.length (Nat.le_refl _); unfold rngL; omega) (by unfold rngL; omega) (by unfold rngL; omega) (by omega) (by omega)
  have h3 := row_3 hav hsp
  have h4 := put_yes hval
  exact ⟨h3.1.trans h4.1, h3.2.trans h4.2, he, hb, hp, hval, hH, hD, hnest⟩
/-- A box that is a row of small kids, as the law's outer row sees it. -/
structure NestB (t : Bx) : Prop where
  val : validB t
  w : -111411200 ≤ t.w ∧ t.w ≤ 111411200
  h : 0 ≤ t.h ∧ t.h ≤ 2097152
  d : 0 ≤ t.d ∧ t.d ≤ 2097152
  y : t.y = 0
  cnt : cntB t ≤ 401
  nest : nestB t ≤ 91
theorem nest_b {l : List Bx} {g : List Int} (hs : smallL l) (hc : cntL l ≤ 400) (hn : l.length ≤ 100) (hg : g.length = l.length) (hz : gapN g) : NestB (rowR l g) := by
  obtain ⟨-, h2, -, h4, -, h6, h7, h8, h9⟩ := nest_row hs hc hn hg hz
  rw [h2]
  refine ⟨h6, h4 _ (Nat.le_refl _), h7, h8, rfl, ?_, ?_⟩
  · rw [cntB_eq]
    show 1 + cntL (movedX l _) ≤ _
    rw [movedX_cnt]; omega
  · rw [nestB_eq]
    show nestL (movedX l _) + 1 ≤ _
    rw [movedX_nest]; omega
theorem kid_two {a b : Bx} : kidAt [a, b] 0 = a ∧ kidAt [a, b] 1 = b := ⟨rfl, rfl⟩
/-- The outer row. -/
theorem nest_two {a b : Bx} (ha : NestB a) (hb : NestB b) :
    rowE [a, b] [0, 0] = 0 ∧ rowR [a, b] [0, 0] = rowB [a, b] (plX [a, b] (lAt [0, 0])) (a.w + b.w) ∧ plX [a, b] (lAt [0, 0]) 0 = 0 ∧ plX [a, b] (lAt [0, 0]) 1 = a.w ∧ cntL [a, b] ≤ 802 := by
  have hk : ∀ i, i < [a, b].length → NestB (kidAt [a, b] i) := fun i hi => by
    match i, hi with
    | 0, _ => exact ha
    | 1, _ => exact hb
  have hav : allV [a, b] := fun i hi => (hk i hi).val
  have hsp : spcOk [a, b] [0, 0] := ⟨rfl, fun k hk => by
    match k, hk with
    | 0, _ => show rngL 0; unfold rngL; omega
    | 1, _ => show rngL 0; unfold rngL; omega⟩
  have wa := ha.w
  have wb := hb.w
  have e1 : endX [a, b] (lAt [0, 0]) 1 = a.w := by
    show IntKind.i64.wrap (IntKind.i64.wrap (0 + 0) + a.w) = _
    rw [show IntKind.i64.wrap (0 + 0) = 0 from rfl, IntWalk.i64_in _ (by omega)]
    omega
  have p0 : plX [a, b] (lAt [0, 0]) 0 = 0 := rfl
  have p1 : plX [a, b] (lAt [0, 0]) 1 = a.w := by
    rw [plX, e1]
    show IntKind.i64.wrap (a.w + 0) = _
    rw [IntWalk.i64_in _ (by omega)]
    omega
  have e2 : endX [a, b] (lAt [0, 0]) 2 = a.w + b.w := by
    rw [endX_s, p1]
    exact IntWalk.i64_in _ (by have := kid_two (a := a) (b := b); show _ ∧ _; rw [this.2]; omega)
  have hH := maxH_small (l := [a, b]) (K := 2097152) (by omega) (fun i hi => by have h1 := (hk i hi).h; have h2 := (hk i hi).y; omega) 2 (Nat.le_refl _)
  have hD := maxD_small (l := [a, b]) (K := 2097152) (by omega) (fun i hi => by have h1 := (hk i hi).d; have h2 := (hk i hi).y; omega) 2 (Nat.le_refl _)
  have hcnt : cntL [a, b] ≤ 802 := by
    rw [cntL_cons, cntL_cons, cntL_nil]
    have := ha.cnt
    have := hb.cnt
    omega
  have hval : validB (rowB [a, b] (plX [a, b] (lAt [0, 0])) (a.w + b.w)) := rowB_valid (fun i hi => (hav i hi).1) (fun i hi => by
    match i, hi with
    | 0, _ => rw [p0]; unfold rngL; omega
    | 1, _ => rw [p1]; unfold rngL; omega) (by unfold rngL; omega) (by show rngL (maxH [a, b] 2); unfold rngL; omega) (by show rngL (maxD [a, b] 2); unfold rngL; omega) (by omega) (by
    have := nest_le (l := [a, b]) (K := 91) fun i hi => (hk i hi).nest
    omega)
  have h3 := row_3 hav hsp
  rw [show endX [a, b] (lAt [0, 0]) [a, b].length = a.w + b.w from e2] at h3
  have h4 := put_yes hval
  exact ⟨h3.1.trans h4.1, h3.2.trans h4.2, p0, p1, hcnt⟩
theorem kid_drop (l : List Bx) (m i : Nat) : kidAt (l.drop m) i = kidAt l (m + i) := by simp [kidAt, List.getD, List.getElem?_drop]
theorem kid_take (l : List Bx) {m i : Nat} (h : i < m) : kidAt (l.take m) i = kidAt l i := by simp [kidAt, List.getD, h]
theorem lAt_drop (g : List Int) (m i : Nat) : lAt (g.drop m) i = lAt g (m + i) := by simp [lAt, List.getD, List.getElem?_drop]
theorem lAt_take (g : List Int) {m i : Nat} (h : i < m) : lAt (g.take m) i = lAt g i := by simp [lAt, List.getD, h]
/-- The places of kids that lie at X and Y. -/
def pcsL (l : List Bx) (X Y : Nat → Int) : Nat → List Pl
  | 0 => []
  | n + 1 => pcsL l X Y n ++ flatB (kidAt l n) (X n) (Y n)
theorem flat_atX (t : Bx) (p x y : Int) : flatB (t.atX p) x y = flatB t x y := by rw [flatB_eq, flatB_eq]; rfl
theorem flat_pcs (l : List Bx) (P : Nat → Int) (x y : Int) : ∀ n, n ≤ l.length → flatL ((movedX l P).take n) x y = pcsL l (fun i => IntKind.i64.wrap (x + P i)) (fun i => IntKind.i64.wrap (y + (kidAt l i).y)) n
  | 0, _ => by rw [List.take_zero, flatL_nil]; rfl
  | n + 1, h => by
    rw [flat_take (by rw [movedX_len]; omega), flat_pcs l P x y n (by omega), movedX_at (by omega), flat_atX]
    rfl
theorem flat_moved (l : List Bx) (P : Nat → Int) (x y : Int) : flatL (movedX l P) x y = pcsL l (fun i => IntKind.i64.wrap (x + P i)) (fun i => IntKind.i64.wrap (y + (kidAt l i).y)) l.length := by
  have h := flat_pcs l P x y l.length (Nat.le_refl _)
  rwa [← movedX_len l P, List.take_length, movedX_len] at h
theorem pcs_congr {l l' : List Bx} {X X' Y Y' : Nat → Int} : ∀ n, (∀ i, i < n → kidAt l i = kidAt l' i ∧ X i = X' i ∧ Y i = Y' i) → pcsL l X Y n = pcsL l' X' Y' n
  | 0, _ => rfl
  | n + 1, h => by
    obtain ⟨h1, h2, h3⟩ := h n (Nat.lt_succ_self n)
    rw [pcsL, pcsL, pcs_congr n fun i hi => h i (by omega), h1, h2, h3]
theorem pcs_add (l : List Bx) (X Y : Nat → Int) (m : Nat) : ∀ j, pcsL l X Y (m + j) = pcsL l X Y m ++ pcsL (l.drop m) (fun i => X (m + i)) (fun i => Y (m + i)) j
  | 0 => by simp [pcsL]
  | j + 1 => by
    rw [← Nat.add_assoc, pcsL, pcsL, pcs_add l X Y m j, kid_drop, List.append_assoc]
theorem maxH_add (l : List Bx) (m : Nat) : ∀ j, maxH l (m + j) = max (maxH l m) (maxH (l.drop m) j)
  | 0 => by
    have h : 0 ≤ maxH l m := by
      induction m with
      | zero => exact Int.le_refl _
      | succ m ih => rw [maxH]; omega
    show maxH l m = max (maxH l m) 0
    omega
  | j + 1 => by
    rw [← Nat.add_assoc, maxH, maxH, maxH_add l m j, kid_drop]
    omega
theorem maxD_add (l : List Bx) (m : Nat) : ∀ j, maxD l (m + j) = max (maxD l m) (maxD (l.drop m) j)
  | 0 => by
    have h : 0 ≤ maxD l m := by
      induction m with
      | zero => exact Int.le_refl _
      | succ m ih => rw [maxD]; omega
    show maxD l m = max (maxD l m) 0
    omega
  | j + 1 => by
    rw [← Nat.add_assoc, maxD, maxD, maxD_add l m j, kid_drop]
    omega
theorem maxH_take (l : List Bx) (m : Nat) : ∀ j, j ≤ m → maxH (l.take m) j = maxH l j
  | 0, _ => rfl
  | j + 1, h => by rw [maxH, maxH, maxH_take l m j (by omega), kid_take l (by omega)]
theorem maxD_take (l : List Bx) (m : Nat) : ∀ j, j ≤ m → maxD (l.take m) j = maxD l j
  | 0, _ => rfl
  | j + 1, h => by rw [maxD, maxD, maxD_take l m j (by omega), kid_take l (by omega)]
theorem sumE_congr {f f' : Nat → Int} : ∀ n, (∀ i, i < n → f i = f' i) → sumE f n = sumE f' n
  | 0, _ => rfl
  | n + 1, h => by rw [sumE, sumE, sumE_congr n fun i hi => h i (by omega), h n (Nat.lt_succ_self n)]
theorem sumE_add (f : Nat → Int) (m : Nat) : ∀ j, sumE f (m + j) = sumE f m + sumE (fun i => f (m + i)) j
  | 0 => by simp [sumE]
  | j + 1 => by
    rw [← Nat.add_assoc, sumE, sumE, sumE_add f m j]
    omega
theorem small_take {l : List Bx} (h : smallL l) (m : Nat) : smallL (l.take m) := fun i hi => by
  rw [List.length_take] at hi
  rw [kid_take l (by omega)]
  exact h i (by omega)
theorem small_drop {l : List Bx} (h : smallL l) (m : Nat) : smallL (l.drop m) := fun i hi => by
  rw [List.length_drop] at hi
  rw [kid_drop]
  exact h _ (by omega)
theorem gap_take {g : List Int} (h : gapN g) (m : Nat) : gapN (g.take m) := fun i hi => by
  rw [List.length_take] at hi
  rw [lAt_take g (by omega)]
  exact h i (by omega)
theorem gap_drop {g : List Int} (h : gapN g) (m : Nat) : gapN (g.drop m) := fun i hi => by
  rw [List.length_drop] at hi
  rw [lAt_drop]
  exact h _ (by omega)
/-- The law on nested rows, in plain words. -/
structure NestP (l : List Bx) (g : List Int) (m : Nat) : Prop where
  eAll : rowE l g = 0
  eA : rowE (l.take m) (g.take m) = 0
  eB : rowE (l.drop m) (g.drop m) = 0
  eT : rowE [rowR (l.take m) (g.take m), rowR (l.drop m) (g.drop m)] [0, 0] = 0
  nA : NestB (rowR (l.take m) (g.take m))
  nB : NestB (rowR (l.drop m) (g.drop m))
  nAll : NestB (rowR l g)
  cT : cntB (rowR [rowR (l.take m) (g.take m), rowR (l.drop m) (g.drop m)] [0, 0]) ≤ 803
  w : (rowR l g).w = (rowR [rowR (l.take m) (g.take m), rowR (l.drop m) (g.drop m)] [0, 0]).w
  h : (rowR l g).h = (rowR [rowR (l.take m) (g.take m), rowR (l.drop m) (g.drop m)] [0, 0]).h
  d : (rowR l g).d = (rowR [rowR (l.take m) (g.take m), rowR (l.drop m) (g.drop m)] [0, 0]).d
  flat : flatB (rowR l g) 0 0 = flatB (rowR [rowR (l.take m) (g.take m), rowR (l.drop m) (g.drop m)] [0, 0]) 0 0
theorem nest_all {l : List Bx} {g : List Int} {m : Nat} (hs : smallL l) (hc : cntL l ≤ 400) (hn : l.length ≤ 100) (hg : g.length = l.length) (hz : gapN g) (hm : m ≤ l.length) : NestP l g m := by
  have hcs : cntL (l.take m) + cntL (l.drop m) = cntL l := by rw [← cntL_append, List.take_append_drop]
  have hlt : (l.take m).length = m := by rw [List.length_take]; omega
  have hld : (l.drop m).length = l.length - m := List.length_drop
  have hgt : (g.take m).length = m := by rw [List.length_take]; omega
  have hgd : (g.drop m).length = l.length - m := by rw [List.length_drop]; omega
  have nA := nest_b (small_take hs m) (by omega) (by omega) (hgt.trans hlt.symm) (gap_take hz m)
  have nB := nest_b (small_drop hs m) (by omega) (by omega) (hgd.trans hld.symm) (gap_drop hz m)
  have nW := nest_b hs hc hn hg hz
  obtain ⟨a1, a2, a3, a4, a5, -, -, -, -⟩ := nest_row (small_take hs m) (by omega) (by omega) (hgt.trans hlt.symm) (gap_take hz m)
  obtain ⟨b1, b2, b3, b4, b5, -, -, -, -⟩ := nest_row (small_drop hs m) (by omega) (by omega) (hgd.trans hld.symm) (gap_drop hz m)
  obtain ⟨w1, w2, w3, w4, w5, -, -, -, -⟩ := nest_row hs hc hn hg hz
  obtain ⟨t1, t2, t3, t4, t5⟩ := nest_two nA nB
  obtain ⟨k, hk⟩ : ∃ k, l.length = m + k := ⟨l.length - m, by omega⟩
  -- ends
  have ea : ∀ j, j ≤ m → endX (l.take m) (lAt (g.take m)) j = endX l (lAt g) j := fun j hj => by
    rw [a3 j (by omega), w3 j (by omega), sumE_congr j fun i hi => by rw [kid_take l (show i < m by omega)], sumE_congr (f := lAt (g.take m)) j fun i hi => lAt_take g (show i < m by omega)]
  have eb : ∀ j, j ≤ k → endX l (lAt g) (m + j) = endX l (lAt g) m + endX (l.drop m) (lAt (g.drop m)) j := fun j hj => by
    rw [b3 j (by omega), w3 (m + j) (by omega), w3 m (by omega), sumE_add, sumE_add, sumE_congr (f := fun i => (kidAt (l.drop m) i).w) j fun i _ => by rw [kid_drop], sumE_congr (f := lAt (g.drop m)) j fun i _ => lAt_drop g m i]
    omega
  have wa : (rowR (l.take m) (g.take m)).w = endX l (lAt g) m := by rw [a2]; show endX (l.take m) _ (l.take m).length = _; rw [hlt, ea m (Nat.le_refl _)]
  have wb : (rowR (l.drop m) (g.drop m)).w = endX (l.drop m) (lAt (g.drop m)) k := by rw [b2]; show endX (l.drop m) _ (l.drop m).length = _; rw [hld, hk, Nat.add_sub_cancel_left]
  refine ⟨w1, a1, b1, t1, nA, nB, nW, ?_, ?_, ?_, ?_, ?_⟩
  · rw [t2, cntB_eq]
    show 1 + cntL (movedX _ _) ≤ _
    rw [movedX_cnt]
    omega
  · rw [t2, w2]
    show endX l (lAt g) l.length = _ + _
    rw [wa, wb, hk, eb k (Nat.le_refl _)]
  · have ha : (rowR (l.take m) (g.take m)).h = maxH l m := by rw [a2]; show maxH (l.take m) (l.take m).length = _; rw [hlt, maxH_take l m m (Nat.le_refl _)]
    have hb : (rowR (l.drop m) (g.drop m)).h = maxH (l.drop m) k := by rw [b2]; show maxH (l.drop m) (l.drop m).length = _; rw [hld, hk, Nat.add_sub_cancel_left]
    rw [t2, w2]
    show maxH l l.length = max (max 0 ((rowR (l.take m) (g.take m)).y + (rowR (l.take m) (g.take m)).h)) ((rowR (l.drop m) (g.drop m)).y + (rowR (l.drop m) (g.drop m)).h)
    have h1 := nA.h
    rw [nA.y, nB.y, hk, maxH_add, ← ha, ← hb]
    omega
  · have ha : (rowR (l.take m) (g.take m)).d = maxD l m := by rw [a2]; show maxD (l.take m) (l.take m).length = _; rw [hlt, maxD_take l m m (Nat.le_refl _)]
    have hb : (rowR (l.drop m) (g.drop m)).d = maxD (l.drop m) k := by rw [b2]; show maxD (l.drop m) (l.drop m).length = _; rw [hld, hk, Nat.add_sub_cancel_left]
    rw [t2, w2]
    show maxD l l.length = max (max 0 ((rowR (l.take m) (g.take m)).d - (rowR (l.take m) (g.take m)).y)) ((rowR (l.drop m) (g.drop m)).d - (rowR (l.drop m) (g.drop m)).y)
    have h1 := nA.d
    rw [nA.y, nB.y, hk, maxD_add, ← ha, ← hb]
    omega
  · -- the places
    have own : ∀ (l : List Bx) (P : Nat → Int) (W x y : Int), flatB (rowB l P W) x y = flatL (movedX l P) x y := fun l P W x y => by
      rw [flatB_eq]
      rfl
    have z0 : IntKind.i64.wrap (0 + 0) = 0 := rfl
    have wA := nA.w
    have hfa : flatB (rowR (l.take m) (g.take m)) 0 0 = pcsL l (fun i => IntKind.i64.wrap (0 + plX l (lAt g) i)) (fun i => IntKind.i64.wrap (0 + (kidAt l i).y)) m := by
      rw [a2, own, flat_moved, hlt]
      refine pcs_congr m fun i hi => ⟨kid_take l hi, ?_, by rw [kid_take l hi]⟩
      show IntKind.i64.wrap (0 + plX (l.take m) (lAt (g.take m)) i) = _
      rw [a5 i (by omega), w5 i (by omega), ea i (by omega), lAt_take g hi]
    have hfb : flatB (rowR (l.drop m) (g.drop m)) (endX l (lAt g) m) 0 = pcsL (l.drop m) (fun i => IntKind.i64.wrap (0 + plX l (lAt g) (m + i))) (fun i => IntKind.i64.wrap (0 + (kidAt l (m + i)).y)) k := by
      rw [b2, own, flat_moved, hld, hk, Nat.add_sub_cancel_left]
      refine pcs_congr k fun i hi => ⟨rfl, ?_, by rw [kid_drop]⟩
      show IntKind.i64.wrap (endX l (lAt g) m + plX (l.drop m) (lAt (g.drop m)) i) = _
      rw [b5 i (by omega), w5 (m + i) (by omega), eb i (by omega), lAt_drop g m i]
      congr 1
      omega
    rw [t2, w2, own, own, flat_moved, hk, pcs_add, ← hfa, ← hfb, flat_moved]
    show _ = pcsL _ _ _ 2
    rw [pcsL, pcsL, pcsL, List.nil_append]
    show _ = flatB _ (IntKind.i64.wrap (0 + plX _ _ 0)) (IntKind.i64.wrap (0 + (rowR (l.take m) (g.take m)).y)) ++ flatB _ (IntKind.i64.wrap (0 + plX _ _ 1)) (IntKind.i64.wrap (0 + (rowR (l.drop m) (g.drop m)).y))
    rw [t3, t4, nA.y, nB.y, z0, Int.zero_add, IntWalk.i64_in _ (by omega), wa]
    rfl
end Go.Proofs.Ytjckbdbjcgjcaaa
