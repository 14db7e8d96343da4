/- The program's Set. -/
import Derived.Test.YtjckbdbjcgjcaaaM3
import Derived.Test.YtjckbdbjcgjcaaaM5
import Derived.RangeFuncNested
import Derived.Laws.EntriesVeiled
import Derived.Test.YtjckbdbjcgjcaaaRegionInv
namespace Go.Proofs.Ytjckbdbjcgjcaaa.Gu
open Go.RowKit
attribute [local go_sem] Oper.semAt_some
theorem make_ints (n : Nat) (hn : n ≤ 1000) (W : World) : (Instr.makeSlice 26 (.int .i64 (n : Int)) (.int .i64 (n : Int))).run Try.prog W =
    .ok (.slice (some ⟨W.heap.size, 0, none⟩) n n) (W.alloc (.cells (madeCells #[.int .i64 0] n) 3)) := by
  obtain ⟨i, hi, hz, hs, hb⟩ := info_parts infoI
  have h := run_make (P := Try.prog) W 26 3 i (.int .i64 0) Try.underlying26 hi hz .i64 .i64 (n : Int) (n : Int) (by omega) (by omega) (by rw [hb]; omega) (by omega)
  rw [hs, show ((n : Int)).toNat = n by omega, Nat.mul_one] at h
  exact h
theorem blk_new (w : World) (o : Obj) : (w.alloc o).heap[w.heap.size]? = some o := World.alloc_heap_new w o
theorem blk_more {w : World} {b : Nat} {o : Obj} (h : w.heap[b]? = some o) (o' : Obj) : (w.alloc o').heap[b]? = some o := (Below.heap_alloc w o' b (Array.getElem?_eq_some_iff.1 h).1).trans h
theorem boxes3 (w : World) (a b c : Obj) : ((((w.alloc a).alloc b).alloc c).heap[w.heap.size]? = some a ∧ (((w.alloc a).alloc b).alloc c).heap[w.heap.size + 1]? = some b ∧ (((w.alloc a).alloc b).alloc c).heap[w.heap.size + 2]? = some c) ∧
    (((w.alloc a).alloc b).alloc c).heap.size = w.heap.size + 3 ∧ Below w.heap.size w (((w.alloc a).alloc b).alloc c) := by
  have h1 := blk_new (w.alloc a) b
  have h2 := blk_new ((w.alloc a).alloc b) c
  simp only [World.size_alloc] at h1 h2
  exact ⟨⟨blk_more (blk_more (blk_new w a) b) c, blk_more h1 c, h2⟩, by simp, (((Below.refl _ w).alloc (Nat.le_refl _) _).alloc (by simp) _).alloc (by simp; omega) _⟩
theorem boxes2 (w : World) (a b : Obj) : (((w.alloc a).alloc b).heap[w.heap.size]? = some a ∧ ((w.alloc a).alloc b).heap[w.heap.size + 1]? = some b) ∧
    ((w.alloc a).alloc b).heap.size = w.heap.size + 2 ∧ Below w.heap.size w ((w.alloc a).alloc b) := by
  have h1 := blk_new (w.alloc a) b
  simp only [World.size_alloc] at h1
  exact ⟨⟨blk_more (blk_new w a) b, h1⟩, by simp, ((Below.refl _ w).alloc (Nat.le_refl _) _).alloc (by simp) _⟩
theorem heap_from {β : Type} (b B : Nat) (cs : Array Value) (t : TypeId) : OwnFrom B (fun (_ : β) (W : World) => W.heap[b]? = some (.cells cs t (0, 0))) := fun _ W W' row h hg hr => by
  refine (hg.block b (Array.getElem?_eq_some_iff.1 h).1 (fun e => ?_)).trans h
  obtain ⟨_, o, ho, hc⟩ := hr b e.symm
  rw [h] at ho
  cases ho
  cases hc
structure ShSt where
  s : Int
  b : Int
  f : Nat → Int
def addZ (a b : Int) : Int := a + b
def subZ (a b : Int) : Int := a - b
def shStep (op : Int → Int → Int) (g T : Int) (pv : Nat → Int) (x : ShSt) (k : Nat) : ShSt :=
  ⟨shS x.s (pv k), shQ g T (shS x.s (pv k)), fun j => if j = k then IntKind.i64.wrap (op (x.f k) (shVv (shQ g T (shS x.s (pv k))) x.b)) else x.f j⟩
def shF (op : Int → Int → Int) (g T : Int) (pv f0 : Nat → Int) (l : List Nat) : ShSt := l.foldl (shStep op g T pv) ⟨0, 0, f0⟩
theorem shF_snoc (op : Int → Int → Int) (g T : Int) (pv f0 : Nat → Int) (l : List Nat) (k : Nat) : shF op g T pv f0 (l ++ [k]) = shStep op g T pv (shF op g T pv f0 l) k := by unfold shF; rw [List.foldl_append]; rfl
/-- The state of the fold behind the first m parts f. -/
def FoldOk (op : Int → Int → Int) (f : Nat → Int) (T g : Int) (f0 : Nat → Int) (n m : Nat) (X : ShSt) : Prop :=
  X.s = sumN f m ∧ X.b = cumN f T g m ∧ ∀ j, j < n → X.f j = if j < m then op (f0 j) (shareN f T g j) else f0 j
theorem FoldOk.zero (op : Int → Int → Int) (f : Nat → Int) (T g : Int) (f0 : Nat → Int) (n : Nat) : FoldOk op f T g f0 n 0 ⟨0, 0, f0⟩ := ⟨rfl, by simp [cumN, sumN], fun j _ => by rw [if_neg (by omega)]⟩
theorem share_nil {f : Nat → Int} {T g : Int} {k : Nat} (h : f k = 0) : shareN f T g k = 0 := by
  have e : sumN f (k + 1) = sumN f k := by show sumN f k + f k = _; omega
  unfold shareN cumN
  rw [e]; omega
theorem FoldOk.skip {op : Int → Int → Int} {f : Nat → Int} {T g : Int} {f0 : Nat → Int} {n m : Nat} {X : ShSt} (hop : ∀ a, op a 0 = a) (h0 : f m = 0) (h : FoldOk op f T g f0 n m X) : FoldOk op f T g f0 n (m + 1) X := by
  obtain ⟨h1, h2, h3⟩ := h
  have e : sumN f (m + 1) = sumN f m := by show sumN f m + f m = _; omega
  refine ⟨by rw [h1, e], by rw [h2]; unfold cumN; rw [e], fun j hj => ?_⟩
  rw [h3 j hj]
  by_cases e2 : j = m
  · subst e2
    rw [if_neg (by omega), if_pos (by omega), share_nil h0, hop]
  · by_cases e3 : j < m
    · rw [if_pos e3, if_pos (by omega)]
    · rw [if_neg e3, if_neg (by omega)]
theorem FoldOk.step {op : Int → Int → Int} {f pv : Nat → Int} {T g : Int} {f0 : Nat → Int} {n m : Nat} {X : ShSt} (hop : ∀ a b, op a b = a + b ∨ op a b = a - b) (hf : ∀ k, k < n → 0 ≤ f k ∧ f k ≤ 1048576) (hT : sumN f n = T) (hT0 : 0 < T) (hT1 : T ≤ 209715200) (h0 : 0 ≤ g) (h1 : g ≤ 2147483647)
    (hf0 : ∀ k, k < n → -1048576 ≤ f0 k ∧ f0 k ≤ 1048576) (hm : m < n) (hp : pv m = f m) (h : FoldOk op f T g f0 n m X) : FoldOk op f T g f0 n (m + 1) (shStep op g T pv X m) := by
  obtain ⟨e1, e2, e3⟩ := h
  have a0 := sumN_pos (f := f) m (fun j hj => (hf j (by omega)).1)
  have a1 := sumN_le (f := f) (n := n) (fun j hj => (hf j hj).1) (show m + 1 ≤ n by omega)
  have a2 := hf m hm
  have a3 : sumN f (m + 1) = sumN f m + f m := rfl
  have b1 := mul_in h0 h1 (show 0 ≤ sumN f (m + 1) by omega) (show sumN f (m + 1) ≤ 209715200 by omega)
  have b2 := cum_in h0 h1 (s := sumN f (m + 1)) (T := T) (by omega) (by omega) hT0
  have b3 := cum_in h0 h1 (s := sumN f m) (T := T) a0 (by omega) hT0
  have b4 : g * sumN f m / T ≤ g * sumN f (m + 1) / T := Int.ediv_le_ediv hT0 (Int.mul_le_mul_of_nonneg_left (by omega) h0)
  have c1 : shS X.s (pv m) = sumN f (m + 1) := by
    unfold shS
    rw [e1, hp, IntWalk.i64_in _ (by omega)]
    rfl
  have c2 : shQ g T (sumN f (m + 1)) = cumN f T g (m + 1) := by
    unfold shQ cumN
    rw [IntWalk.i64_in (g * sumN f (m + 1)) (by omega), IntWalk.i64_quo _ _ (by omega)]
  have c3 : shVv (cumN f T g (m + 1)) X.b = shareN f T g m := by
    unfold shVv shareN
    rw [e2]
    unfold cumN
    rw [IntWalk.i64_in _ (by omega)]
  have c4 : 0 ≤ shareN f T g m ∧ shareN f T g m ≤ 2147483647 := by
    unfold shareN cumN
    omega
  unfold shStep
  refine ⟨c1, by show shQ g T (shS X.s (pv m)) = _; rw [c1, c2], fun j hj => ?_⟩
  show (if j = m then _ else _) = _
  by_cases ej : j = m
  · subst ej
    have e4 := e3 j hj
    rw [if_neg (by omega)] at e4
    have h5 := hf0 j hj
    rw [if_pos rfl, if_pos (by omega), c1, c2, c3, e4]
    refine IntWalk.i64_in _ ?_
    rcases hop (f0 j) (shareN f T g j) with e | e <;> rw [e] <;> omega
  · rw [if_neg ej, e3 j hj]
    by_cases e5 : j < m
    · rw [if_pos e5, if_pos (by omega)]
    · rw [if_neg e5, if_neg (by omega)]
theorem fold_str {l : List Gl} {o T e : Int} (hv : VG l) (hT : strV l o = T) (hT0 : 0 < T) (h0 : 0 ≤ e) (h1 : e ≤ 2147483647) : ∀ m, m ≤ l.length → FoldOk addZ (stO l o) T e (wdAt l) l.length m (shF addZ e T (stAt l) (wdAt l) (pickO l o m))
  | 0, _ => FoldOk.zero _ _ _ _ _ _
  | m + 1, hm => by
    have ih := fold_str hv hT hT0 h0 h1 m (by omega)
    by_cases h : odAt l m = o
    · rw [pick_yes h, shF_snoc]
      exact ih.step (fun a b => .inl rfl) (fun k hk => stO_range hv o hk) hT hT0 (by rw [← hT]; exact (str_bound hv o (Nat.le_refl _)).2) h0 h1 (fun k hk => ⟨(hv.2 k hk).1, (hv.2 k hk).2.1⟩) (by omega) (by unfold stO; rw [if_pos h])
    · rw [pick_no h]
      exact ih.skip (fun a => by unfold addZ; omega) (by unfold stO; rw [if_neg h])
theorem fold_shr {l : List Gl} {T g : Int} (hv : VG l) (hT : shrV l = T) (hT0 : 0 < T) (h0 : 0 ≤ g) (h1 : g ≤ 2147483647) : ∀ m, m ≤ l.length → FoldOk subZ (shAt l) T g (wdAt l) l.length m (shF subZ g T (shAt l) (wdAt l) (List.range m))
  | 0, _ => FoldOk.zero _ _ _ _ _ _
  | m + 1, hm => by
    have ih := fold_shr hv hT hT0 h0 h1 m (by omega)
    rw [List.range_succ, shF_snoc]
    exact ih.step (fun a b => .inr rfl) (fun k hk => by have := hv.2 k hk; unfold okG at this; omega) hT hT0 (by rw [← hT]; exact (shr_bound hv (Nat.le_refl _)).2) h0 h1 (fun k hk => ⟨(hv.2 k hk).1, (hv.2 k hk).2.1⟩) (by omega) rfl
theorem blk_far {W : World} {b : Nat} {o : Obj} (h : W.heap[b]? = some o) {p : Addr} (hp : b ≠ p.block) (v : Value) : (W.setCell p v).heap[b]? = some o := (Below.heap_setCell W p v b hp).trans h
theorem Keep.drew (n₀ lo hi : Nat) (W : World) : Keep n₀ lo hi W W.drew := ⟨below_drewN (Below.refl _ W) 1, fun _ _ _ => rfl⟩
theorem inWideRound {P : Program} {F : Fence} {n l : Nat} {f : FuncId} {args : Array Value} {w : World} {R : Ending → World → Prop} (hF : F = Fence.wide) (h : Calls P f args w R) : CallsIn (F.inRound l) n P f args w R := CallsIn.inRound l (inWide hF h)
/-- What lies in memory while the shares are handed out: from block s on. -/
def ShMem (w : World) (n t s : Nat) (g T : Int) (X : ShSt) (W : World) : Prop :=
  ∃ cs, W.heap[t]? = some (.cells cs 3 (0, 0)) ∧ (∀ j, j < n → cs[j]? = some (.int .i64 (X.f j))) ∧ (Boxed W (t + 1) 26 (.slice (some ⟨t, 0, none⟩) n n) ∧ Boxed W s 3 (.int .i64 g) ∧ Boxed W (s + 1) 3 (.int .i64 T) ∧ Boxed W (s + 2) 3 (.int .i64 X.s) ∧ Boxed W (s + 3) 3 (.int .i64 X.b) ∧
    Boxed W (s + 4) 49 (.func (.func 71) #[] #[.pointer (some ⟨s + 2, 0, none⟩), .pointer (some ⟨s, 0, none⟩), .pointer (some ⟨s + 1, 0, none⟩), .pointer (some ⟨s + 3, 0, none⟩)])) ∧ Below w.heap.size w W
theorem ShMem.own {β : Type} {w : World} {n t s B : Nat} {g T : Int} {X : β → ShSt} (hw : w.heap.size ≤ B) : OwnFrom B (fun b W => ShMem w n t s g T (X b) W) := fun b W W' row h hg hr => by
  obtain ⟨cs, h1, h2, ⟨h3, h4, h5, h6, h7, h8⟩, h9⟩ := h
  exact ⟨cs, heap_from (β := Unit) t _ cs 3 () W W' row h1 hg hr, h2, ⟨heap_from (β := Unit) _ _ _ _ () W W' row h3 hg hr, heap_from (β := Unit) _ _ _ _ () W W' row h4 hg hr, heap_from (β := Unit) _ _ _ _ () W W' row h5 hg hr, heap_from (β := Unit) _ _ _ _ () W W' row h6 hg hr, heap_from (β := Unit) _ _ _ _ () W W' row h7 hg hr, heap_from (β := Unit) _ _ _ _ () W W' row h8 hg hr⟩, ownFrom_below (β := Unit) (Nat.le_refl _) hw () W W' row h9 hg hr⟩
/-- One share more. -/
theorem ShMem.step {w : World} {n t s : Nat} {g T : Int} {X : ShSt} {W : World} {cs : Array Value} {k : Nat} {p s' q' v y : Int} (op : Int → Int → Int) (pv : Nat → Int) (hsw : w.heap.size ≤ t) (hts : t + 1 < s) (hk : k < n) (hp : pv k = p) (hs' : shS X.s p = s') (hq' : shQ g T s' = q') (hv : shVv q' X.b = v) (hy : IntKind.i64.wrap (op (X.f k) v) = y)
    (h1 : W.heap[t]? = some (.cells cs 3 (0, 0))) (h2 : ∀ j, j < n → cs[j]? = some (.int .i64 (X.f j))) (h3 : Boxed W (t + 1) 26 (.slice (some ⟨t, 0, none⟩) n n)) (h4 : Boxed W s 3 (.int .i64 g)) (h5 : Boxed W (s + 1) 3 (.int .i64 T)) (h6 : Boxed W (s + 2) 3 (.int .i64 X.s)) (h7 : Boxed W (s + 3) 3 (.int .i64 X.b))
    (h8 : Boxed W (s + 4) 49 (.func (.func 71) #[] #[.pointer (some ⟨s + 2, 0, none⟩), .pointer (some ⟨s, 0, none⟩), .pointer (some ⟨s + 1, 0, none⟩), .pointer (some ⟨s + 3, 0, none⟩)])) (h9 : Below w.heap.size w W) :
    ShMem w n t s g T (shStep op g T pv X k) (((W.drew.setCell ⟨s + 2, 0, none⟩ (.int .i64 s')).setCell ⟨s + 3, 0, none⟩ (.int .i64 q')).setCell ⟨t, k, none⟩ (.int .i64 y)) := by
  have far : ∀ (b : Nat) (o : Obj), W.heap[b]? = some o → b ≠ s + 2 → b ≠ s + 3 → b ≠ t → (((W.drew.setCell ⟨s + 2, 0, none⟩ (.int .i64 s')).setCell ⟨s + 3, 0, none⟩ (.int .i64 q')).setCell ⟨t, k, none⟩ (.int .i64 y)).heap[b]? = some o := fun b o h e1 e2 e3 =>
    blk_far (blk_far (blk_far (W := W.drew) h e1 _) e2 _) e3 _
  have e0 : W.drew.heap[t]? = some (.cells cs 3 (0, 0)) := h1
  have b1 : (W.drew.setCell ⟨s + 2, 0, none⟩ (.int .i64 s')).heap[t]? = _ := blk_far e0 (p := ⟨s + 2, 0, none⟩) (by show t ≠ s + 2; omega) _
  have b2 := blk_far b1 (p := ⟨s + 3, 0, none⟩) (by show t ≠ s + 3; omega) (.int .i64 q')
  have c6 : Boxed (W.drew.setCell ⟨s + 2, 0, none⟩ (.int .i64 s')) (s + 2) 3 (.int .i64 s') := Boxed.set (W := W.drew) _ h6
  have d6 : Boxed (((W.drew.setCell ⟨s + 2, 0, none⟩ (.int .i64 s')).setCell ⟨s + 3, 0, none⟩ (.int .i64 q')).setCell ⟨t, k, none⟩ (.int .i64 y)) (s + 2) 3 (.int .i64 s') := blk_far (blk_far c6 (p := ⟨s + 3, 0, none⟩) (by show s + 2 ≠ s + 3; omega) _) (by show s + 2 ≠ t; omega) _
  have c7 : Boxed (W.drew.setCell ⟨s + 2, 0, none⟩ (.int .i64 s')) (s + 3) 3 (.int .i64 X.b) := blk_far (W := W.drew) h7 (p := ⟨s + 2, 0, none⟩) (by show s + 3 ≠ s + 2; omega) _
  have d7 : Boxed (((W.drew.setCell ⟨s + 2, 0, none⟩ (.int .i64 s')).setCell ⟨s + 3, 0, none⟩ (.int .i64 q')).setCell ⟨t, k, none⟩ (.int .i64 y)) (s + 3) 3 (.int .i64 q') := blk_far (Boxed.set (.int .i64 q') c7) (by show s + 3 ≠ t; omega) _
  have x1 : (shStep op g T pv X k).s = s' := by show shS X.s (pv k) = _; rw [hp, hs']
  have x2 : (shStep op g T pv X k).b = q' := by show shQ g T (shS X.s (pv k)) = _; rw [hp, hs', hq']
  refine ⟨cs.setIfInBounds k (.int .i64 y), blk_set b2 k _, fun j hj => ?_, ⟨far _ _ h3 (by omega) (by omega) (by omega), far _ _ h4 (by omega) (by omega) (by omega), far _ _ h5 (by omega) (by omega) (by omega), by rw [x1]; exact d6, by rw [x2]; exact d7, far _ _ h8 (by omega) (by omega) (by omega)⟩, ?_⟩
  · have x3 : (shStep op g T pv X k).f j = if j = k then y else X.f j := by
      show (if j = k then IntKind.i64.wrap (op (X.f k) (shVv (shQ g T (shS X.s (pv k))) X.b)) else X.f j) = _
      rw [hp, hs', hq', hv, hy]
    rw [x3]
    by_cases e : j = k
    · subst e
      have hsz : j < cs.size := (Array.getElem?_eq_some_iff.1 (h2 j hj)).1
      rw [if_pos rfl]
      simp [hsz]
    · rw [if_neg e, Array.getElem?_setIfInBounds_ne (by omega)]
      exact h2 j hj
  · have h9' : Below w.heap.size w W.drew := below_drewN h9 1
    exact ((h9'.setCell (p := ⟨s + 2, 0, none⟩) (by show w.heap.size ≤ s + 2; omega) _).setCell (p := ⟨s + 3, 0, none⟩) (by show w.heap.size ≤ s + 3; omega) _).setCell (p := ⟨t, k, none⟩) hsw _
theorem sh_keeps {W : World} {w : World} {t s k : Nat} {lo hi B : Nat} {s' q' y : Int} (hsw : w.heap.size ≤ t) (hts : t + 1 < s) (hlo : s + 3 < lo) :
    KeepsFrom B W (((W.drew.setCell ⟨s + 2, 0, none⟩ (.int .i64 s')).setCell ⟨s + 3, 0, none⟩ (.int .i64 q')).setCell ⟨t, k, none⟩ (.int .i64 y)) ∧
    Keep w.heap.size lo hi W (((W.drew.setCell ⟨s + 2, 0, none⟩ (.int .i64 s')).setCell ⟨s + 3, 0, none⟩ (.int .i64 q')).setCell ⟨t, k, none⟩ (.int .i64 y)) :=
  ⟨((((KeepsOthers.drew W).trans (KeepsOthers.setCell _ _ _)).trans (KeepsOthers.setCell _ _ _)).trans (KeepsOthers.setCell _ _ _)).from B,
   (((Keep.drew _ _ _ W).setCell (p := ⟨s + 2, 0, none⟩) (by show _ ≤ s + 2; omega) (.inl (by show s + 2 < _; omega)) _).setCell (p := ⟨s + 3, 0, none⟩) (by show _ ≤ s + 3; omega) (.inl (by show s + 3 < _; omega)) _).setCell (p := ⟨t, k, none⟩) hsw (.inl (by show t < _; omega)) _⟩
/-- The closure that hands out shares, in a world of its own. -/
theorem sharer_at (g T : Int) (w : World) :
    Calls Try.prog 54 #[.int .i64 g, .int .i64 T] w fun e w' =>
      e = .returned (.func (.func 71) #[] #[.pointer (some ⟨w.heap.size + 2, 0, none⟩), .pointer (some ⟨w.heap.size, 0, none⟩), .pointer (some ⟨w.heap.size + 1, 0, none⟩), .pointer (some ⟨w.heap.size + 3, 0, none⟩)]) ∧
      (w'.heap.size = w.heap.size + 4 ∧ (Boxed w' w.heap.size 3 (.int .i64 g) ∧ Boxed w' (w.heap.size + 1) 3 (.int .i64 T) ∧ Boxed w' (w.heap.size + 2) 3 (.int .i64 0) ∧ Boxed w' (w.heap.size + 3) 3 (.int .i64 0))) ∧ Below w.heap.size w w' := by
  refine (sharer_any g T w).mono ?_
  rintro e w' ⟨he, rfl⟩
  obtain ⟨⟨h0, h1, h2⟩, h3, h4⟩ := boxes3 w (.cells #[.int .i64 g] 3) (.cells #[.int .i64 T] 3) (.cells #[.int .i64 0] 3)
  have h5 := blk_new (((w.alloc (.cells #[.int .i64 g] 3)).alloc (.cells #[.int .i64 T] 3)).alloc (.cells #[.int .i64 0] 3)) (.cells #[.int .i64 0] 3)
  rw [h3] at h5
  exact ⟨he, ⟨by rw [World.size_alloc, h3], blk_more h0 _, blk_more h1 _, blk_more h2 _, h5⟩, h4.alloc (by omega) _⟩
end Go.Proofs.Ytjckbdbjcgjcaaa.Gu
