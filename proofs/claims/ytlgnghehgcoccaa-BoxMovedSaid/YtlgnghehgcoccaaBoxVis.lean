/- box.visits: a box and all boxes in it, handed to a loop one after the other, a box before its kids. -/
import Derived.Test.YtlgnghehgcoccaaBoxMovP
import Derived.Deep.RegionHeld3
import Derived.RangeFuncNested
import Derived.RangeFuncBound
import Derived.RangeFuncCalls
import Derived.RangeFuncLeaves
import Derived.Shelf.Abstract
import Derived.WalkKit
import Derived.OwnWalkIn
import Derived.TacticsInMore
import Derived.LoopNIn
import Derived.LoopIn
namespace Go.Proofs.Ytlgnghehgcoccaa
open Go.RowKit
attribute [local go_sem] Oper.semAt_some
theorem inWide {P : Program} {F : Fence} {n : Nat} {f : FuncId} {args : Array Value} {w : World} {R : Ending → World → Prop} (hF : F = Fence.wide) (h : Calls P f args w R) : CallsIn F n P f args w R := by
  subst hF; exact callsIn_wide.2 h
theorem grown_new {w w' : World} (h : Below w.heap.size w w') : w.grownBy w' none := ⟨h.os, h.tape, h.output, h.size, fun k hk _ => h.block k hk⟩
theorem room_of_none {F : Fence} (hd : F.depth = none) (k : Nat) : F.room k := fun d h => by rw [hd] at h; cases h
theorem RoundIn.anyDepth {F : Fence} (hd : F.depth = none) {m m' : Nat} {P : Program} {l : Nat} {f : FuncId} {tmps : Array Value} {assign body : Code} {w : World} {R : Ending → World → Prop}
    (h : RoundIn F m P l f tmps assign body w R) : RoundIn F m' P l f tmps assign body w R := ⟨h.1, fun c cs _ => h.2 c cs (room_of_none hd _)⟩
theorem YieldAt.anyDepth {F : Fence} (hd : F.depth = none) {m : Nat} (m' : Nat) {P : Program} {l : Nat} {args : Array Value} {W : World} {R : Ending → World → Prop} (h : YieldAt F m P l args W R) : YieldAt F m' P l args W R := by
  obtain ⟨fn, tmps, assign, body, hy, hR⟩ := h
  exact ⟨fn, tmps, assign, body, hy, RoundIn.anyDepth hd hR⟩
/-- A box, its place in memory, its absolute place. -/
structure Vis where
  b : Nat
  o : Nat
  t : Bx
  x : Int
  y : Int
/-- What the loop is handed. -/
abbrev Vis.val (v : Vis) : Value := .agg #[.pointer (some ⟨v.b, v.o, none⟩), .int .i64 v.x, .int .i64 v.y]
/-- It lies there, below block n₀. -/
def VisOk (W0 : World) (n₀ : Nat) (v : Vis) : Prop := v.b < n₀ ∧ ∃ A c A' c', BoxAt W0 v.b v.o v.t A c A' c'
abbrev VisIn (W0 : World) (n₀ : Nat) := { v : Vis // VisOk W0 n₀ v }
def vEnc {W0 : World} {n₀ : Nat} (x : VisIn W0 n₀) : Array Value := #[x.val.val]
abbrev V3 := Bx × Int × Int
def vKey {W0 : World} {n₀ : Nat} (x : VisIn W0 n₀) : V3 := (x.val.t, x.val.x, x.val.y)
mutual
/-- The boxes in a box, with their places. -/
def visB : Bx → Int → Int → List V3
  | .mk k nm sz w h d bx bz kids of_ src, x, y => (.mk k nm sz w h d bx bz kids of_ src, x, y) :: visL kids x y
def visL : List Bx → Int → Int → List V3
  | [], _, _ => []
  | t :: ts, x, y => visB t (IntKind.i64.wrap (x + t.x)) (IntKind.i64.wrap (y + t.y)) ++ visL ts x y
end
theorem visB_eq (t : Bx) (x y : Int) : visB t x y = (t, x, y) :: visL t.kids x y := by
  cases t
  rw [visB]
  rfl
theorem visL_nil (x y : Int) : visL [] x y = [] := by rw [visL]
theorem visL_cons (t : Bx) (ts : List Bx) (x y : Int) : visL (t :: ts) x y = visB t (IntKind.i64.wrap (x + t.x)) (IntKind.i64.wrap (y + t.y)) ++ visL ts x y := by rw [visL]
theorem visL_append (x y : Int) : ∀ a b : List Bx, visL (a ++ b) x y = visL a x y ++ visL b x y
  | [], b => by rw [visL_nil]; rfl
  | t :: ts, b => by rw [List.cons_append, visL_cons, visL_cons, visL_append x y ts b, List.append_assoc]
theorem vis_take {l : List Bx} {i : Nat} (h : i < l.length) (x y : Int) : visL (l.take (i + 1)) x y = visL (l.take i) x y ++ visB (kidAt l i) (IntKind.i64.wrap (x + (kidAt l i).x)) (IntKind.i64.wrap (y + (kidAt l i).y)) := by
  rw [take_kid l h, visL_append, visL_cons, visL_nil, List.append_nil]
theorem vis_len (n : Nat) : ∀ t : Bx, cntB t ≤ n → ∀ x y, (visB t x y).length = cntB t := by
  induction n with
  | zero => intro t h; have := cntB_pos t; omega
  | succ n ih =>
    intro t h x y
    have hl : ∀ l : List Bx, cntL l ≤ n → (visL l x y).length = cntL l := by
      intro l
      induction l with
      | nil => intro _; rw [visL_nil, cntL_nil]; rfl
      | cons u us ih2 =>
        intro h2
        rw [cntL_cons] at h2
        rw [visL_cons, cntL_cons, List.length_append, ih2 (by omega), ih u (by omega)]
    rw [cntB_eq] at h
    rw [visB_eq, List.length_cons, hl t.kids (by omega), cntB_eq]
    omega
theorem visL_len (l : List Bx) (x y : Int) : (visL l x y).length = cntL l := by
  induction l with
  | nil => rw [visL_nil, cntL_nil]; rfl
  | cons u us ih => rw [visL_cons, cntL_cons, List.length_append, ih, vis_len (cntB u) u (Nat.le_refl _)]
/-- The glyphs and rules among visits. -/
def flatV : List V3 → List Pl
  | [] => []
  | p :: ps => ownPl p.1 p.2.1 p.2.2 ++ flatV ps
theorem flatV_append : ∀ a b : List V3, flatV (a ++ b) = flatV a ++ flatV b
  | [], b => rfl
  | p :: ps, b => by rw [List.cons_append, flatV, flatV, flatV_append ps b, List.append_assoc]
theorem flat_vis (n : Nat) : ∀ t : Bx, cntB t ≤ n → ∀ x y, flatV (visB t x y) = flatB t x y := by
  induction n with
  | zero => intro t h; have := cntB_pos t; omega
  | succ n ih =>
    intro t h x y
    have hl : ∀ l : List Bx, cntL l ≤ n → flatV (visL l x y) = flatL l x y := by
      intro l
      induction l with
      | nil => intro _; rw [visL_nil, flatL_nil]; rfl
      | cons u us ih2 =>
        intro h2
        rw [cntL_cons] at h2
        rw [visL_cons, flatL_cons, flatV_append, ih2 (by omega), ih u (by omega)]
    rw [cntB_eq] at h
    rw [visB_eq, flatB_eq, flatV, hl t.kids (by omega)]
/-- What a round of the loop keeps: what lies below block n₀, and the iterator's own boxes. -/
structure KeepV (n₀ : Nat) (W W' : World) : Prop where
  below : Below n₀ W W'
  vis : ∀ (k : Nat) (cs : Array Value) (r : Nat × Nat), W.heap[k]? = some (Obj.cells cs 58 r) → W'.heap[k]? = some (Obj.cells cs 58 r)
theorem KeepV.refl (n₀ : Nat) (W : World) : KeepV n₀ W W := ⟨Below.refl _ _, fun _ _ _ h => h⟩
theorem KeepV.trans {n₀ : Nat} {A B C : World} (h : KeepV n₀ A B) (k : KeepV n₀ B C) : KeepV n₀ A C := ⟨h.below.trans k.below, fun i cs r hi => k.vis i cs r (h.vis i cs r hi)⟩
theorem KeepV.of {n₀ : Nat} {W W' : World} (h : Below W.heap.size W W') (hn : n₀ ≤ W.heap.size) : KeepV n₀ W W' :=
  ⟨h.mono hn, fun k _ _ hk => (h.block k (Array.getElem?_eq_some_iff.1 hk).1).trans hk⟩
theorem KeepV.put {n₀ : Nat} {w : World} (hn : n₀ ≤ w.heap.size) (W : World) (l : Nat) (o o' : Obj) (hl : w.heap.size ≤ l) (h : W.heap[l]? = some o) (hc : o.isCells = false) (hw : o.isWalk = false) : KeepV n₀ W (W.putObj l o') :=
  ⟨belowK_b hn W l o o' hl h hc hw, fun k cs r hk => (World.putObj_heap_other (by rintro rfl; rw [h] at hk; cases hk; cases hc)).trans hk⟩
set_option maxRecDepth 100000 in
set_option maxHeartbeats 2000000 in
theorem walkBox_any (l n₀ N : Nat) (W0 : World) (J Jx : List (VisIn W0 n₀) → World → Prop) (Bn : Nat) (hJ : AbidesFrom Bn J)
    (hY : ∀ m pre x W, J pre W → pre.length < N → YieldAt Fence.wide m Try.prog l (vEnc x) W fun e W' => (e = .returned (.bool true) ∧ J (pre ++ [x]) W' ∧ KeepV n₀ W W') ∨ (e = .returned (.bool false) ∧ Jx (pre ++ [x]) W')) :
    ∀ (n : Nat) (t : Bx), cntB t ≤ n → n ≤ 100000 → ∀ (b o : Nat) (A : Option Addr) (c : Nat) (A' : Option Addr) (c' : Nat) (x y : Int) (pre : List (VisIn W0 n₀)) (W : World), b < n₀ → BoxAt W0 b o t A c A' c' → Kids W0 0 n₀ A t.kids → Below n₀ W0 W → n₀ ≤ W.heap.size → J pre W → pre.length + cntB t ≤ N →
    Calls Try.prog 38 #[.agg #[.pointer (some ⟨b, o, none⟩), .int .i64 x, .int .i64 y], .func (.yield l) #[] #[]] W fun e W' =>
      (e = .returned (.bool true) ∧ (∃ ys, ys.map vKey = visB t x y ∧ J (pre ++ ys) W') ∧ KeepV n₀ W W') ∨ (e = .returned (.bool false) ∧ ∃ q, Jx q W') := by
  intro n
  induction n with
  | zero => intro t h; have := cntB_pos t; omega
  | succ n ih =>
  intro t hn hn1 b o A c A' c' x y pre W hb hat hK hbw hn0 hj hN
  have IH := Lib.hid ih
  clear ih
  have HY := Lib.hid hY
  clear hY
  have HK := Lib.hid (And.intro hat hK)
  have HBW := Lib.hid hbw
  have HJ : Hid (∀ (q : List (VisIn W0 n₀)) (w1 w2 : World), J q w1 → Below w1.heap.size w1 w2 → J q w2) := fun q w1 w2 h1 h2 => hJ q w1 w2 none h1 (grown_new h2) (fun _ e => by cases e)
  obtain ⟨W1, hW1⟩ : ∃ W1, W.alloc (.cells #[.pointer (some ⟨b, o, none⟩), .int .i64 x, .int .i64 y] 58) = W1 := ⟨_, rfl⟩
  obtain ⟨s, hs⟩ : ∃ s, W.heap.size = s := ⟨_, rfl⟩
  have D1 : Hid (W1.heap[s]? = some (.cells #[.pointer (some ⟨b, o, none⟩), .int .i64 x, .int .i64 y] 58 (0, 0))) := by rw [← hW1, ← hs]; exact blk_new _ _
  have HB1 : Hid (Below W.heap.size W W1) := by rw [← hW1]; exact one_below _ _
  have HJ1 : Hid (J pre W1) := HJ.out _ _ _ hj HB1.out
  have g0 : W1.cell? ⟨s, 0, none⟩ = some (.pointer (some ⟨b, o, none⟩)) := blk_cell D1.out 0 _ rfl
  have g1 : W1.cell? ⟨s, 1, none⟩ = some (.int .i64 x) := blk_cell D1.out 1 _ rfl
  have g2 : W1.cell? ⟨s, 2, none⟩ = some (.int .i64 y) := blk_cell D1.out 2 _ rfl
  have hcn := cntB_eq t
  have hlen := cnt_len t.kids
  have HN : Hid (cntB t ≤ n + 1 ∧ n + 1 ≤ 100000 ∧ cntL t.kids ≤ n ∧ t.kids.length ≤ 100000 ∧ pre.length + (1 + cntL t.kids) ≤ N ∧ n₀ ≤ s) := ⟨hn, hn1, by omega, by omega, by omega, by omega⟩
  obtain ⟨X, hX⟩ : ∃ X : VisIn W0 n₀, X.val = ⟨b, o, t, x, y⟩ := ⟨⟨⟨b, o, t, x, y⟩, hb, A, c, A', c', hat⟩, rfl⟩
  have HX : Hid (vKey X = (t, x, y)) := by show (X.val.t, X.val.x, X.val.y) = _; rw [hX]
  obtain ⟨fn, tmps, assign, body, hy, hR⟩ := HY.out 7 pre X W1 HJ1.out (by omega)
  rw [show vEnc X = #[.agg #[.pointer (some ⟨b, o, none⟩), .int .i64 x, .int .i64 y]] by unfold vEnc Vis.val; rw [hX]] at hy
  have HR := Lib.hid hR
  clear hX hR hat hK hbw hj hJ hcn hlen hn hn1 hN hn0
  refine callsIn_wide.1 (callsIn_of_wp (F := Fence.wide) (n := 8) Try.func38 rfl trivial ?_ rfl)
  simp only [Try.ntmps38, List.size_toArray, List.length_cons, List.length_nil, Nat.reduceAdd, Nat.reduceSub, Array.replicate_succ, Array.replicate_zero, List.push_toArray, List.append_toArray, List.nil_append, List.cons_append]
  gi_wp2
  refine HR.out.mono ?_
  rintro e W2 (⟨rfl, hJ2, hk2⟩ | ⟨rfl, hx2⟩)
  case inr =>
    gi_wp2
    go_ret
    exact .inr ⟨rfl, _, hx2⟩
  have hk2' : Below n₀ W W2 := (HB1.out.mono (by have := HN.out.2.2.2.2.2; omega)).trans hk2.below
  have D2 : Hid (W2.heap[s]? = some (.cells #[.pointer (some ⟨b, o, none⟩), .int .i64 x, .int .i64 y] 58 (0, 0))) := hk2.vis s _ _ D1.out
  have HK2 := Lib.hid hk2
  have HJ2 := Lib.hid hJ2
  have HB2 : Hid (Below n₀ W0 W2) := HBW.out.trans hk2'
  have f0 : W2.cell? ⟨s, 0, none⟩ = some (.pointer (some ⟨b, o, none⟩)) := blk_cell D2.out 0 _ rfl
  have f8 : W2.cell? ⟨b, o + 8, none⟩ = some (.slice A t.kids.length c) := (HB2.out.cell (p := ⟨b, o + 8, none⟩) hb).trans (HK.out.1 8 (by omega))
  clear hk2 hJ2 hk2' g0 g1 g2 hy hW1
  have hbnd := HN.out.2.2.2.1
  gi_wp2
  refine wpIn_wide.2 ?_
  clear f0 f8
  go_loopw [17] (fun q wr => ∃ (i : Nat) (ys : List (VisIn W0 n₀)), i ≤ t.kids.length ∧ q = .int .i64 (i : Int) ∧ ys.map vKey = visL (t.kids.take i) x y ∧ J (pre ++ [X] ++ ys) wr ∧ KeepV n₀ W1 wr) (fun q _ => t.kids.length - (intOf q).toNat)
  case atStart => exact ⟨0, [], Nat.zero_le _, rfl, by rw [List.take_zero, visL_nil]; rfl, by rw [List.append_nil]; exact HJ2.out, HK2.out⟩
  case round =>
    obtain ⟨i, ys, hi, rfl, hys, hj, hkv⟩ := hrel
    have HYS := Lib.hid hys
    have HJW := Lib.hid hj
    have HKV := Lib.hid hkv
    have HSZ : Hid (n₀ ≤ wr.heap.size) := by
      have h1 := HB1.out.size
      have h2 := hkv.below.size
      have h3 := HN.out.2.2.2.2.2
      show _ ≤ _
      omega
    have HBR : Hid (Below n₀ W0 wr) := (HBW.out.trans (HB1.out.mono (by have := HN.out.2.2.2.2.2; omega))).trans hkv.below
    have DR : Hid (wr.heap[s]? = some (.cells #[.pointer (some ⟨b, o, none⟩), .int .i64 x, .int .i64 y] 58 (0, 0))) := hkv.vis s _ _ D1.out
    clear hys hj hkv
    by_cases hlt : i < t.kids.length
    · obtain ⟨kb, ko, A1, c1, A2, c2, rfl, _, hkb, hatk, hk1, -⟩ := HK.out.2.at hlt
      have f0 : wr.cell? ⟨s, 0, none⟩ = some (.pointer (some ⟨b, o, none⟩)) := blk_cell DR.out 0 _ rfl
      have f1 : wr.cell? ⟨s, 1, none⟩ = some (.int .i64 x) := blk_cell DR.out 1 _ rfl
      have f2 : wr.cell? ⟨s, 2, none⟩ = some (.int .i64 y) := blk_cell DR.out 2 _ rfl
      have f8 : wr.cell? ⟨b, o + 8, none⟩ = some (.slice (some ⟨kb, ko, none⟩) t.kids.length c) := (HBR.out.cell (p := ⟨b, o + 8, none⟩) hb).trans (HK.out.1 8 (by omega))
      obtain ⟨u, hu⟩ : ∃ u, kidAt t.kids i = u := ⟨_, rfl⟩
      rw [hu] at hatk hk1
      obtain ⟨ux, hux⟩ : ∃ ux, u.x = ux := ⟨_, rfl⟩
      obtain ⟨uy, huy⟩ : ∃ uy, u.y = uy := ⟨_, rfl⟩
      have f6 : wr.cell? ⟨kb, ko + i * 11 + 6, none⟩ = some (.int .i64 ux) := by rw [← hux]; exact (HBR.out.cell (p := ⟨kb, ko + i * 11 + 6, none⟩) hkb).trans (hatk 6 (by omega))
      have f7 : wr.cell? ⟨kb, ko + i * 11 + 7, none⟩ = some (.int .i64 uy) := by rw [← huy]; exact (HBR.out.cell (p := ⟨kb, ko + i * 11 + 7, none⟩) hkb).trans (hatk 7 (by omega))
      obtain ⟨x', hx'⟩ : ∃ x', IntKind.i64.wrap (x + ux) = x' := ⟨_, rfl⟩
      obtain ⟨y', hy'⟩ : ∃ y', IntKind.i64.wrap (y + uy) = y' := ⟨_, rfl⟩
      have HTK : Hid (visL (t.kids.take (i + 1)) x y = visL (t.kids.take i) x y ++ visB u x' y') := by
        show _ = _
        rw [vis_take hlt, hu, hux, huy, hx', hy']
      have hcu : cntB u ≤ cntL t.kids - cntL (t.kids.take i) := by
        have h1 := cnt_take t.kids hlt
        have h2 := cnt_take_le t.kids (i + 1)
        rw [hu] at h1
        omega
      have hyl : ys.length = cntL (t.kids.take i) := by
        have h1 := congrArg List.length HYS.out
        rw [List.length_map] at h1
        rw [h1, visL_len]
      have HCT : Hid (∀ W' : World, Below wr.heap.size wr W' → Calls Try.prog 38 #[.agg #[.pointer (some ⟨kb, ko + i * 11, none⟩), .int .i64 x', .int .i64 y'], .func (.yield l) #[] #[]] W' fun e w' =>
          ∃ r : Bool, e = .returned (.bool r) ∧ ((r = true ∧ (∃ zs, zs.map vKey = visB u x' y' ∧ J (pre ++ [X] ++ ys ++ zs) w') ∧ KeepV n₀ W' w') ∨ (r = false ∧ ∃ q, Jx q w'))) := fun W' hW => by
        have hh := HN.out
        have hc := cnt_take_le t.kids i
        have hs2 := hW.size
        have hs3 := HSZ.out
        refine (IH.out u (by omega) (by omega) kb (ko + i * 11) A1 c1 A2 c2 x' y' (pre ++ [X] ++ ys) W' hkb hatk hk1 (HBR.out.trans (hW.mono (by omega))) (by omega) (HJ.out _ _ _ HJW.out hW) (by simp only [List.length_append, List.length_cons, List.length_nil]; omega)).mono ?_
        rintro e w' (⟨rfl, h1, h2⟩ | ⟨rfl, h1⟩)
        · exact ⟨true, rfl, .inl ⟨rfl, h1, h2⟩⟩
        · exact ⟨false, rfl, .inr ⟨rfl, h1⟩⟩
      have hbnd2 : i < 100000 := by omega
      clear hatk hk1 hu hux huy hcu hyl
      go_wp2_with fail
      go_region_with (go_at_call 38; refine (HCT.out _ (by first | exact Below.refl _ _ | exact (Below.refl _ _).drew)).mono ?_; rintro e w4 ⟨r4, rfl, hr4⟩; have HR4 := Lib.hid hr4; clear hr4)
      all_goals
        rcases HR4.out with ⟨rfl, ⟨zs, hz, hj4⟩, hk4⟩ | ⟨rfl, q, hx4⟩
        · have HZ : Hid ((ys ++ zs).map vKey = visL (t.kids.take (i + 1)) x y) := by show _ = _; rw [List.map_append, hz, HTK.out, HYS.out]
          have HJ4 : Hid (J (pre ++ [X] ++ (ys ++ zs)) w4) := by rw [← List.append_assoc]; exact hj4
          have HK4 : Hid (KeepV n₀ W1 w4) := (HKV.out.trans (KeepV.of (Below.refl _ _).drew HSZ.out)).trans hk4
          clear hz hj4 hk4 HR4
          go_wp2_with fail
          go_roundw
          case rel => exact ⟨i + 1, ys ++ zs, by omega, by go_num, HZ.out, HJ4.out, HK4.out⟩
          case measure => simp [intOf]; omega
        · clear HR4
          go_wp2_with fail
          go_ret
          exact .inr ⟨rfl, q, hx4⟩
    · obtain rfl : i = t.kids.length := by omega
      have HE : Hid (([X] ++ ys).map vKey = visB t x y) := by
        have h := HYS.out
        rw [List.take_length] at h
        show _ = _
        rw [List.map_append, h, visB_eq, ← HX.out]
        rfl
      have HJE : Hid (J (pre ++ ([X] ++ ys)) wr) := by rw [← List.append_assoc]; exact HJW.out
      have HKE : Hid (KeepV n₀ W wr) := (KeepV.of HB1.out (by have h1 := HN.out.2.2.2.2.2; omega)).trans HKV.out
      go_wp2_with fail
      gi_wp2
      go_ret
      exact .inl ⟨rfl, ⟨_, HE.out, HJE.out⟩, HKE.out⟩
end Go.Proofs.Ytlgnghehgcoccaa
