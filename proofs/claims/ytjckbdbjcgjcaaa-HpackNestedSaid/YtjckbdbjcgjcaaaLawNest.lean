/- The law on nested rows: the walk. -/
import Derived.Test.YtjckbdbjcgjcaaaLawTight
import Derived.Test.YtjckbdbjcgjcaaaHpSmall
import Derived.Test.YtjckbdbjcgjcaaaBoxFlat
import Derived.Test.YtjckbdbjcgjcaaaHpNestP
import Derived.Test.YtjckbdbjcgjcaaaHpRowN
import Derived.Test.YtjckbdbjcgjcaaaHpStore
import Derived.Deep.DeepCutAuto
import Derived.Test.YtjckbdbjcgjcaaaOpenU16
namespace Go.Proofs.Ytjckbdbjcgjcaaa
open Go.RowKit
theorem take_at {g : List Int} {n k : Nat} (h : k < n) : lAt (g.take n) k = lAt g k := by
  unfold lAt
  simp [List.getD, h]
theorem intV_take {g : List Int} {i : Nat} (h : i < g.length) : intV (g.take (i + 1)) = intV (g.take i) ++ [.int .i64 (lAt g i)] := by
  unfold intV lAt
  rw [List.take_succ_eq_append_getElem h, List.map_append]
  simp [List.getD, h]
theorem own_ints {W : World} {base c n : Nat} {A : Option Addr} {l : List Int} (h : W.ownsRow base 3 1 (.slice A n c) n (intV l)) (hn : l.length = n) : Ints W 0 W.heap.size A l ∧ n ≤ c := by
  rcases Nat.eq_zero_or_pos n with h0 | h0
  · exact ⟨fun h1 => by omega, by omega⟩
  obtain ⟨g, rfl, h1, h2, h3, h4⟩ := own_cell h h0
  exact ⟨fun _ => ⟨g, 0, rfl, Nat.zero_le _, h2, fun k hk => by rw [Nat.zero_add]; exact h4 k _ (intV_in hk)⟩, h3⟩
theorem kids_take {w : World} {lo hi : Nat} {A : Option Addr} {l : List Bx} (h : Kids w lo hi A l) (m : Nat) : Kids w lo hi A (l.take m) := by
  cases h with
  | mk _ _ K K' C C' hA hS hN hK =>
    have hlt : ∀ i, i < (l.take m).length → i < l.length ∧ kidAt (l.take m) i = kidAt l i := fun i hi => by
      rw [List.length_take] at hi
      exact ⟨by omega, kid_take l (by omega)⟩
    refine .mk A _ K K' C C' (fun h0 => ?_) (fun i hi' => ?_) (fun i hi' => ?_) fun i hi' => ?_
    · obtain ⟨b, off, rfl, hL, hB, hc⟩ := hA (by rw [List.length_take] at h0; omega)
      exact ⟨b, off, rfl, hL, hB, fun i hi' j hj => by rw [(hlt i hi').2]; exact hc i (hlt i hi').1 j hj⟩
    · rw [(hlt i hi').2]; exact hS i (hlt i hi').1
    · rw [(hlt i hi').2]; exact hN i (hlt i hi').1
    · rw [(hlt i hi').2]; exact hK i (hlt i hi').1
theorem ints_take {w : World} {lo hi : Nat} {A : Option Addr} {l : List Int} (h : Ints w lo hi A l) (m : Nat) : Ints w lo hi A (l.take m) := fun h0 => by
  rw [List.length_take] at h0
  obtain ⟨b, off, rfl, hL, hB, hc⟩ := h (by omega)
  refine ⟨b, off, rfl, hL, hB, fun k hk => ?_⟩
  rw [List.length_take] at hk
  rw [lAt_take l (by omega)]
  exact hc k (by omega)
theorem kids_drop {w : World} {lo hi : Nat} {b off : Nat} {l : List Bx} (h : Kids w lo hi (some ⟨b, off, none⟩) l) (m : Nat) : Kids w lo hi (some ⟨b, off + m * 11, none⟩) (l.drop m) := by
  cases h with
  | mk _ _ K K' C C' hA hS hN hK =>
    have hlt : ∀ i, i < (l.drop m).length → m + i < l.length := fun i hi => by
      rw [List.length_drop] at hi
      omega
    refine .mk _ _ (fun i => K (m + i)) (fun i => K' (m + i)) (fun i => C (m + i)) (fun i => C' (m + i)) (fun h0 => ?_) (fun i hi' => ?_) (fun i hi' => ?_) fun i hi' => ?_
    · obtain ⟨b', off', he, hL, hB, hc⟩ := hA (by rw [List.length_drop] at h0; omega)
      injection he with he
      injection he with e1 e2
      subst e1 e2
      exact ⟨b, off + m * 11, rfl, hL, hB, fun i hi' j hj => by rw [kid_drop, show off + m * 11 + i * 11 + j = off + (m + i) * 11 + j by omega]; exact hc (m + i) (hlt i hi') j hj⟩
    · rw [kid_drop]; exact hS _ (hlt i hi')
    · rw [kid_drop]; exact hN _ (hlt i hi')
    · rw [kid_drop]; exact hK _ (hlt i hi')
theorem ints_drop {w : World} {lo hi : Nat} {b off : Nat} {l : List Int} (h : Ints w lo hi (some ⟨b, off, none⟩) l) (m : Nat) : Ints w lo hi (some ⟨b, off + m, none⟩) (l.drop m) := fun h0 => by
  rw [List.length_drop] at h0
  obtain ⟨b', off', he, hL, hB, hc⟩ := h (by omega)
  injection he with he
  injection he with e1 e2
  subst e1 e2
  refine ⟨b, off + m, rfl, hL, hB, fun k hk => ?_⟩
  rw [List.length_drop] at hk
  rw [lAt_drop, Nat.add_assoc]
  exact hc _ (by omega)
/-- What region 12 and region 13 leave: a row's box in a block of its own. -/
def NestC (W0 : World) (R : Bx) (v e : Value) (W : World) : Prop := ∃ p A c, v = .pointer (some ⟨p, 0, none⟩) ∧ e = .int .i64 0 ∧ W0.heap.size ≤ p ∧ W.heap[p]? = some (.cells (bxA R A c none 0) 28 (0, 0)) ∧ Kids W 0 W.heap.size A R.kids ∧ Below W0.heap.size W0 W
theorem NestC.one {W0 w7 : World} {R : Bx} {A : Option Addr} {c : Nat} (hk : Kids w7 0 w7.heap.size A R.kids) (hb : Below W0.heap.size W0 w7) : NestC W0 R (.pointer (some ⟨w7.heap.size, 0, none⟩)) (.int .i64 0) (w7.alloc (.cells (bxA R A c none 0) 28)) :=
  ⟨_, A, c, rfl, rfl, hb.size, blk_new _ _, hk.next (one_below _ _), below_next hb (one_below _ _)⟩
theorem NestC.two {W0 w7 W : World} {R : Bx} {A : Option Addr} {c p : Nat} (hp : W0.heap.size = p) (hh : W.heap[p]? = some (.cells (bxA R A c none 0) 28 (0, 0)) ∧ (∀ k, k ≠ p → W.heap[k]? = w7.heap[k]?) ∧ W.heap.size = w7.heap.size)
    (hk : ∀ W' : World, w7.heap.size ≤ W'.heap.size → (∀ k, k < W0.heap.size ∨ W0.heap.size + 1 ≤ k → k < w7.heap.size → W'.heap[k]? = w7.heap[k]?) → Kids W' 0 W'.heap.size A R.kids) (hb : Below W0.heap.size W0 w7) (ho : W.os = w7.os) (ht : W.tape = w7.tape) (hu : W.output = w7.output) :
    NestC W0 R (.pointer (some ⟨p, 0, none⟩)) (.int .i64 0) W := by
  refine ⟨p, A, c, rfl, rfl, by omega, hh.1, hk W (by omega) (fun k h1 h2 => hh.2.1 k (by omega)), ⟨ho.trans hb.os, ht.trans hb.tape, hu.trans hb.output, by rw [hh.2.2]; exact hb.size, fun k hk2 => ?_⟩⟩
  rw [hh.2.1 k (by omega)]
  exact hb.block k hk2
theorem nest_new (w : World) (o o' : Obj) : ((w.alloc o).drew.alloc o').heap[w.heap.size + 1]? = some o' := by
  have h := blk_new (w.alloc o).drew o'
  rwa [show (w.alloc o).drew.heap.size = w.heap.size + 1 from World.size_alloc w o] at h
theorem nest_call1 {A A' : Option Addr} {l : List Bx} {g : List Int} {m c cx : Nat} (n₀ : Nat) {W : World} (hg : g.length = l.length) (hm : m ≤ l.length) (hc : cntL l ≤ 1000) (hgl : g.length ≤ lenMax) (hn₀ : n₀ ≤ W.heap.size) (hK : Kids W 0 W.heap.size A l) (hI : Ints W 0 W.heap.size A' g) :
    Calls Try.prog 18 #[.slice A m c, .slice A' m cx] W (PPost n₀ (rowR (l.take m) (g.take m)) (rowE (l.take m) (g.take m)) W) := by
  have h1 : (l.take m).length = m := by rw [List.length_take]; omega
  have h2 : (g.take m).length = m := by rw [List.length_take]; omega
  have h := hrow_gen n₀ A (l.take m) c A' (g.take m) cx W (Nat.le_trans (cnt_take_le l m) hc) (by rw [h2]; omega) hn₀ (kids_take hK m) (ints_take hI m)
  rwa [h1, h2] at h
theorem kids_dropA {w : World} {lo hi c m : Nat} {A : Option Addr} {l : List Bx} (h : Kids w lo hi A l) (hc : l.length ≤ c) (hm : m ≤ l.length) : Kids w lo hi (if c = m then A else A.map (·.add (m * 11))) (l.drop m) := by
  by_cases h0 : m = l.length
  · rw [h0, List.drop_length]
    exact Kids.nil _ _ _ _
  · rw [if_neg (by omega)]
    obtain ⟨b, off, _, _, _, _, rfl, _⟩ := h.at (i := 0) (by omega)
    rw [Option.map_some, Addr.add_lit]
    exact kids_drop h m
theorem ints_dropA {w : World} {lo hi c m : Nat} {A : Option Addr} {l : List Int} (h : Ints w lo hi A l) (hc : l.length ≤ c) (hm : m ≤ l.length) : Ints w lo hi (if c = m then A else A.map (·.add (m * 1))) (l.drop m) := by
  by_cases h0 : m = l.length
  · rw [h0, List.drop_length]
    exact fun h => absurd h (by simp)
  · rw [if_neg (by omega)]
    obtain ⟨b, off, rfl, -⟩ := h (by omega)
    rw [Option.map_some, Addr.add_lit, Nat.mul_one]
    exact ints_drop h m
theorem nest_call2 {A A' AD AD' : Option Addr} {l : List Bx} {g : List Int} {m c cx : Nat} (n₀ : Nat) {W : World} (hg : g.length = l.length) (hm : m ≤ l.length) (hc : cntL l ≤ 1000) (hgl : g.length ≤ lenMax) (hn₀ : n₀ ≤ W.heap.size) (hK : Kids W 0 W.heap.size A l) (hI : Ints W 0 W.heap.size A' g) (hlc : l.length ≤ c) (hlx : l.length ≤ cx)
    (hA : (if c = m then A else A.map (·.add (m * 11))) = AD) (hA' : (if cx = m then A' else A'.map (·.add (m * 1))) = AD') :
    Calls Try.prog 18 #[.slice AD (l.length - m) (c - m), .slice AD' (l.length - m) (cx - m)] W (PPost n₀ (rowR (l.drop m) (g.drop m)) (rowE (l.drop m) (g.drop m)) W) := by
  have h1 : (l.drop m).length = l.length - m := List.length_drop
  have h2 : (g.drop m).length = l.length - m := by rw [List.length_drop]; omega
  have hcs : cntL (l.take m) + cntL (l.drop m) = cntL l := by rw [← cntL_append, List.take_append_drop]
  have h := hrow_gen n₀ AD (l.drop m) (c - m) AD' (g.drop m) (cx - m) W (by omega) (by rw [h2]; omega) hn₀ (by rw [← hA]; exact kids_dropA hK hlc hm) (by rw [← hA']; exact ints_dropA hI (by omega) (by omega))
  rwa [h1, h2] at h
/-- The two rows side by side. -/
abbrev twQ (RA RB : Bx) (A B : Option Addr) (c d : Nat) : List Q5 := [⟨RA, A, c, none, 0⟩, ⟨RB, B, d, none, 0⟩]
abbrev twW (w : World) (RA RB : Bx) (A B : Option Addr) (c d : Nat) : World := (w.alloc (.cells (rowC (twQ RA RB A B c d)).toArray 28)).alloc (.cells #[.int .i64 0, .int .i64 0] 3)
theorem tw_mem {w : World} {RA RB : Bx} {A B : Option Addr} {c d : Nat} (hA : Kids w 0 w.heap.size A RA.kids) (hB : Kids w 0 w.heap.size B RB.kids) (sA : RA.src = []) (sB : RB.src = []) (lA : lens RA) (lB : lens RB) :
    Kids (twW w RA RB A B c d) 0 (twW w RA RB A B c d).heap.size (some ⟨w.heap.size, 0, none⟩) [RA, RB] ∧ Ints (twW w RA RB A B c d) 0 (twW w RA RB A B c d).heap.size (some ⟨w.heap.size + 1, 0, none⟩) [0, 0] ∧ Below w.heap.size w (twW w RA RB A B c d) := by
  have h0 := blk_more (blk_new w (.cells (rowC (twQ RA RB A B c d)).toArray 28)) (.cells #[.int .i64 0, .int .i64 0] 3)
  have h1 := blk_new (w.alloc (.cells (rowC (twQ RA RB A B c d)).toArray 28)) (.cells #[.int .i64 0, .int .i64 0] 3)
  rw [World.size_alloc] at h1
  have hb : Below w.heap.size w (twW w RA RB A B c d) := two_below _ _ _
  refine ⟨?_, fun _ => ⟨_, 0, rfl, Nat.zero_le _, by simp, fun k hk => ?_⟩, hb⟩
  · refine kids_row (Q := twQ RA RB A B c d) (fun k u hu => ?_) (Nat.zero_le _) (by simp; omega) fun q hq => ?_
    · rw [Nat.zero_add]
      exact blk_cell h0 k u (by simpa using hu)
    · simp only [List.mem_cons, List.not_mem_nil, or_false] at hq
      rcases hq with rfl | rfl
      · refine ⟨hA.next hb, ?_, lA⟩
        show Ints _ _ _ none RA.src
        rw [sA]; exact fun h => absurd h (by simp)
      · refine ⟨hB.next hb, ?_, lB⟩
        show Ints _ _ _ none RB.src
        rw [sB]; exact fun h => absurd h (by simp)
  · rw [Nat.zero_add]
    match k, hk with
    | 0, _ => exact blk_cell h1 0 _ rfl
    | 1, _ => exact blk_cell h1 1 _ rfl
set_option maxRecDepth 100000 in
set_option maxHeartbeats 8000000 in
theorem hpackNested_walk (A : Option Addr) (l : List Bx) (c : Nat) (B : Option Addr) (gl : List Int) (d : Nat) (z : Int) (w : World) (hl : l.length ≤ lenMax) (hlc : l.length ≤ c) (hg : gl.length ≤ lenMax) (hK : Kids w 0 w.heap.size A l) (hI : U16s w w.heap.size B gl) (hz : 0 ≤ z ∧ z ≤ 255) :
    Calls Try.prog 7 #[.slice A l.length c, .slice B gl.length d, .int .u8 z] w fun e w' => e = .returned (.bool true) ∧ Below w.heap.size w w' := by
  obtain ⟨i1, hi1, hy0, hy1, hy2⟩ := info_parts infoBox
  obtain ⟨i0, hi0, hx0, hx1, hx2⟩ := info_parts infoI
  have HK := Lib.hid (And.intro hK hI)
  have HL := Lib.hid (And.intro hl (And.intro hg hlc))
  have hl' : l.length ≤ 9223372036854775807 := hl
  have hg' : gl.length ≤ 9223372036854775807 := hg
  clear hK hI hl hg
  go_enter Try.func7, Try.ntmps7
  go_wp2_with fail
  refine (hawake_any w).mono ?_
  rintro e w1 ⟨rfl, hb1⟩
  have HB1 := Lib.hid hb1
  clear hb1
  by_cases hn : l.length ≤ 100
  case neg =>
    go_wp2
    go_ret
    exact ⟨rfl, HB1.out⟩
  obtain ⟨r, hr⟩ : ∃ r, decide (1 + cntL l ≤ 400) = r := ⟨_, rfl⟩
  have HR := Lib.hid hr
  clear hr
  go_wp2_with fail
  refine (few_any l 400 A c w1 (by omega) HR.out (HK.out.1.next HB1.out)).mono ?_
  rintro e w2 ⟨rfl, hb2⟩
  have HB2 := Lib.hid (below_next HB1.out hb2)
  clear hb2
  cases r with
  | false =>
    go_wp2
    go_ret
    exact ⟨rfl, HB2.out⟩
  | true =>
  have HCN : Hid (cntL l ≤ 400) := by have := of_decide_eq_true HR.out; show _ ≤ _; omega
  clear HR
  obtain ⟨v, hv⟩ := bool_of (smallL l)
  have HV := Lib.hid hv
  clear hv
  go_wp2_with fail
  refine (small_any A l c w2 HV.out (by have := HCN.out; omega) (HK.out.1.next HB2.out)).mono ?_
  rintro e w3 ⟨rfl, hb3⟩
  have HB3 := Lib.hid (below_next HB2.out hb3)
  clear hb3
  cases v with
  | false =>
    go_wp2
    go_ret
    exact ⟨rfl, HB3.out⟩
  | true =>
  have HS : Hid (smallL l) := HV.out.1 rfl
  clear HV
  by_cases hgl : l.length ≤ gl.length
  case neg =>
    have q2 : (gl.length : Int) < (l.length : Int) := by omega
    clear hgl
    go_wp2
    go_ret
    exact ⟨rfl, HB3.out⟩
  by_cases hg4 : gl.length ≤ 400
  case neg =>
    have q2 : ¬ (gl.length : Int) < (l.length : Int) := by omega
    have q3 : (400 : Int) < (gl.length : Int) := by omega
    clear hg4
    go_wp2
    go_ret
    exact ⟨rfl, HB3.out⟩
  have q2 : ¬ (gl.length : Int) < (l.length : Int) := by omega
  have q3 : ¬ (400 : Int) < (gl.length : Int) := by omega
  go_wp2_with fail
  clear q2 q3
  go_loopw [7, 8] (fun v q wr => ∃ (i : Nat) (A' : Option Addr) (cx : Nat), i ≤ l.length ∧ q = .int .i64 (i : Int) ∧ v = .slice A' i cx ∧ wr.ownsRow w3.heap.size 3 1 (.slice A' i cx) i (intV (gl.take i)) ∧ Below w3.heap.size w3 wr) (fun _ q _ => l.length - (intOf q).toNat)
  case atStart => exact ⟨0, none, 0, Nat.zero_le _, rfl, rfl, ⟨rfl, .inl ⟨rfl, rfl⟩⟩, Below.refl _ _⟩
  case round =>
    obtain ⟨i, A', cx, hi, rfl, rfl, hown, hbw⟩ := hrel
    have HB := Lib.hid hbw
    have HO := Lib.hid hown
    have HBW : Hid (Below w.heap.size w wr) := below_next HB3.out hbw
    clear hbw hown
    by_cases hlt : i < l.length
    · obtain ⟨gb, go, rfl, hgb, hgc⟩ := HK.out.2 (by omega)
      obtain ⟨hgc, hgz⟩ := hgc i (by omega)
      obtain ⟨zz, hzz⟩ : ∃ zz, lAt gl i = zz := ⟨_, rfl⟩
      rw [hzz] at hgc hgz
      have HTK : Hid (intV (gl.take (i + 1)) = intV (gl.take i) ++ [.int .i64 zz]) := by show _ = _; rw [intV_take (by omega), hzz]
      have sz : IntKind.i64.wrap zz = zz := IntWalk.i64_in _ (by omega)
      have yg : wr.cell? ⟨gb, go + i, none⟩ = some (.int .u16 zz) := (HBW.out.cell (p := ⟨gb, go + i, none⟩) hgb).trans hgc
      have hix : i < gl.length := by omega
      have HO7 : Hid ((wr.alloc (.cells #[.int .i64 zz] 3)).ownsRow w3.heap.size 3 1 (.slice A' i cx) i (intV (gl.take i))) := own_below HO.out (one_below _ _)
      have HSZ7 : Hid (w3.heap.size ≤ (wr.alloc (.cells #[.int .i64 zz] 3)).heap.size) := by
        show _ ≤ _
        have := HB.out.size
        rw [World.size_alloc]; omega
      clear hgc hzz
      go_wp2_with (at_builtin; refine wpList_append_el rfl _ _ 26 3 rfl i0 _ 1 8 Try.underlying26 hi0 hx0 hx1 hx2 rfl (by omega) rfl HO7.out rfl (blk_new _ _) rfl (fun u hu => by simp at hu; subst hu; rfl) (by unfold maxLen; omega) (by omega) HSZ7.out ?_; intro A6 c6 w8 hown8 hb8; have HO8 := Lib.hid hown8; have HB8 := Lib.hid hb8; clear hown8 hb8)
      have HO9 : Hid (w8.ownsRow w3.heap.size 3 1 (.slice A6 (i + 1) c6) (i + 1) (intV (gl.take (i + 1)))) := by rw [HTK.out]; exact HO8.out
      have HBE : Hid (Below w3.heap.size w3 w8) := (HB.out.alloc HB.out.size _).trans HB8.out
      go_roundw
      case rel =>
        exact ⟨i + 1, by omega, by go_num, A6, c6, ⟨rfl, rfl, rfl⟩, HO9.out, HBE.out⟩
      case measure => simp [intOf]; omega
    · obtain rfl : i = l.length := by omega
      have hgt : (gl.take l.length).length = l.length := by rw [List.length_take]; omega
      obtain ⟨hig, hcx⟩ := own_ints HO.out hgt
      obtain ⟨g, hge⟩ : ∃ g, gl.take l.length = g := ⟨_, rfl⟩
      have HGU : Hid (g.length = l.length ∧ ∀ k, k < g.length → 0 ≤ lAt g k ∧ lAt g k ≤ 65535) := by
        rw [← hge]
        refine ⟨hgt, fun k hk => ?_⟩
        rw [take_at (by omega)]
        obtain ⟨gb, go, _, _, hgc⟩ := HK.out.2 (by omega)
        exact (hgc k (by omega)).2
      rw [hge] at hig
      have HIG := Lib.hid hig
      clear hgt hge hig
      have s0 : IntKind.i64.wrap ((l.length : Int) + 1) = (l.length : Int) + 1 := IntWalk.i64_in _ (by omega)
      have sz : IntKind.i64.wrap z = z := IntWalk.i64_in _ (by omega)
      have hn1 : ¬ ((l.length : Int) + 1 = 0) := by omega
      obtain ⟨m, hm, hm0, hm1⟩ : ∃ m : Nat, m ≤ l.length ∧ z.tmod ((l.length : Int) + 1) = (m : Int) ∧ IntKind.i64.wrap (z.tmod ((l.length : Int) + 1)) = (m : Int) := by
        obtain ⟨zn, rfl⟩ : ∃ zn : Nat, z = (zn : Int) := ⟨z.toNat, by omega⟩
        have h1 : ((zn : Int)).tmod ((l.length : Int) + 1) = ((zn % (l.length + 1) : Nat) : Int) := rfl
        have h2 := Nat.mod_lt zn (show 0 < l.length + 1 by omega)
        exact ⟨zn % (l.length + 1), by omega, h1, by rw [h1]; exact IntWalk.i64_in _ (by omega)⟩
      go_wp2_with fail
      have HN : Hid (NestP l g m) := nest_all HS.out HCN.out (by omega) HGU.out.1 HGU.out.2 hm
      obtain ⟨RW, hRW⟩ : ∃ RW, rowR l g = RW := ⟨_, rfl⟩
      have HRW := Lib.hid hRW
      have HCA : ∀ (W : World), Below wr.heap.size wr W → Calls Try.prog 18 #[.slice A l.length c, .slice A' l.length cx] W (PPost W.heap.size (rowR l g) (rowE l g) W) := fun W hW => by
        have h := hrow_any A l c A' g cx W (by have := HCN.out; omega) (by have := HGU.out.1; unfold lenMax; omega) (HK.out.1.next (below_next HBW.out hW)) (HIG.out.next hW)
        rwa [HGU.out.1] at h
      refine (HCA wr (Below.refl _ _)).mono ?_
      clear HCA
      rintro e w5 hp5
      obtain ⟨A5, c5, rfl, hk5, hb5⟩ := hp5.now
      rw [HN.out.eAll]
      rw [hRW] at hk5 ⊢
      have HB5 : Hid (Below wr.heap.size wr w5) := hb5
      have HBW5 : Hid (Below w.heap.size w w5) := below_next HBW.out hb5
      have HK5 := Lib.hid hk5
      clear hb5 hk5 hp5 hRW
      have HGN : Hid (g.length = l.length) := HGU.out.1
      have sm := hm
      go_wp2_with fail
      have HTL : Hid (∀ (n₀ : Nat) (W : World), Below wr.heap.size wr W → n₀ ≤ W.heap.size → Calls Try.prog 18 #[.slice A m c, .slice A' m cx] W (PPost n₀ (rowR (l.take m) (g.take m)) (rowE (l.take m) (g.take m)) W)) := fun n₀ W hW hn => nest_call1 n₀ HGN.out hm (by have := HCN.out; omega) (by have := HGU.out.1; unfold lenMax; omega) hn (HK.out.1.next (below_next HBW.out hW)) (HIG.out.next hW)
      obtain ⟨RA, hRA⟩ : ∃ RA, rowR (l.take m) (g.take m) = RA := ⟨_, rfl⟩
      rw [HN.out.eA, hRA] at HTL
      have HRA := Lib.hid hRA
      clear hRA
      have HB6 : Hid (Below wr.heap.size wr (w5.alloc (.cells (bxA RW A5 c5 none 0) 28)).drew) := (below_next HB5.out (one_below _ _)).drew
      go_cut [12, 13] (fun v q wx => NestC (w5.alloc (.cells (bxA RW A5 c5 none 0) 28)) RA v q wx)
      case rest =>
        obtain ⟨wn, hwn⟩ : ∃ wn : World, wn = wc := ⟨_, rfl⟩
        subst hwn
        obtain ⟨p12, A12, c12, rfl, rfl, hp12, hd12, hk12, hb12⟩ := hcut
        have HB12 : Hid (Below w5.heap.size w5 wn) := (one_below _ _).trans (hb12.mono (by simp))
        have HD10 : Hid (wn.heap[w5.heap.size]? = some (.cells (bxA RW A5 c5 none 0) 28 (0, 0))) := (hb12.block _ (by simp)).trans (blk_new _ _)
        have HD12 := Lib.hid hd12
        have HK12 := Lib.hid hk12
        have HP12 : Hid (w5.heap.size < p12 ∧ p12 < wn.heap.size) := ⟨by have := hp12; simp at this; omega, (Array.getElem?_eq_some_iff.1 hd12).1⟩
        clear hp12 hd12 hk12 hb12 HTL HB6
        go_wp2_with fail
        obtain ⟨AD, hAD⟩ : ∃ AD, (if c = m then A else A.map (·.add (m * 11))) = AD := ⟨_, rfl⟩
        obtain ⟨AX, hAX⟩ : ∃ AX, (if cx = m then A' else A'.map (·.add (m * 1))) = AX := ⟨_, rfl⟩
        have HBC : Hid (Below wr.heap.size wr wn) := below_next HB5.out HB12.out
        have HTD : Hid (∀ (n₀ : Nat) (W : World), Below wr.heap.size wr W → n₀ ≤ W.heap.size → Calls Try.prog 18 #[.slice AD (l.length - m) (c - m), .slice AX (l.length - m) (cx - m)] W (PPost n₀ (rowR (l.drop m) (g.drop m)) (rowE (l.drop m) (g.drop m)) W)) := fun n₀ W hW hn => nest_call2 n₀ HGN.out hm (by have := HCN.out; omega) (by have := HGU.out.1; unfold lenMax; omega) hn (HK.out.1.next (below_next HBW.out hW)) (HIG.out.next hW) HL.out.2.2 hcx hAD hAX
        obtain ⟨RB, hRB⟩ : ∃ RB, rowR (l.drop m) (g.drop m) = RB := ⟨_, rfl⟩
        rw [HN.out.eB, hRB] at HTD
        have HRB := Lib.hid hRB
        clear hRB
        rw [Nat.mul_one] at hAX
        have HBCD : Hid (Below wr.heap.size wr wn.drew) := HBC.out.drew
        go_cut [14, 15] (fun v q wx => NestC wn RB v q wx)
        case rest =>
          obtain ⟨p14, A14, c14, rfl, rfl, hp14, hd14, hk14, hb14⟩ := hcut
          have HB14 : Hid (Below wn.heap.size wn wc) := hb14
          have HD14 := Lib.hid hd14
          have HK14 := Lib.hid hk14
          have HP14 : Hid (wn.heap.size ≤ p14 ∧ p14 < wc.heap.size) := ⟨hp14, (Array.getElem?_eq_some_iff.1 hd14).1⟩
          have HD10' : Hid (wc.heap[w5.heap.size]? = some (.cells (bxA RW A5 c5 none 0) 28 (0, 0))) := (hb14.block _ (Array.getElem?_eq_some_iff.1 HD10.out).1).trans HD10.out
          have HD12' : Hid (wc.heap[p12]? = some (.cells (bxA RA A12 c12 none 0) 28 (0, 0))) := (hb14.block _ HP12.out.2).trans HD12.out
          have HK12' := Lib.hid (HK12.out.next hb14)
          have HBW14 : Hid (Below w.heap.size w wc) := below_next HBW.out (below_next HBC.out hb14)
          have HK10' : Hid (Kids wc 0 wc.heap.size A5 RW.kids) := HK5.out.next (below_next HB12.out hb14)
          clear hp14 hd14 hk14 hb14 HTD hAD hAX HBCD HD10 HD12 HK12 HK5
          have HC12 : Hid (∀ j, j < 11 → wc.cell? ⟨p12, 0 + j, none⟩ = (bxA RA A12 c12 none 0)[j]?) := fun j _ => by rw [Nat.zero_add]; exact cell_of_row _ _ _ _ _ _ HD12'.out
          have HC14 : Hid (∀ j, j < 11 → wc.cell? ⟨p14, 0 + j, none⟩ = (bxA RB A14 c14 none 0)[j]?) := fun j _ => by rw [Nat.zero_add]; exact cell_of_row _ _ _ _ _ _ HD14.out
          go_wp2_with ((with_reducible refine at_load 28 ?_); go_loud (first | refine wpList_load_all i1 11 hi1 hy1 _ Try.underlying28 rfl rfl HC12.out ?_ | refine wpList_load_all i1 11 hi1 hy1 _ Try.underlying28 rfl rfl HC14.out ?_))
          have hlA : lens RA ∧ cntB RA ≤ 1001 ∧ RA.src = [] := by
            rw [← HRA.out]
            exact rowR_lens (by rw [List.length_take]; omega) (Nat.le_trans (cnt_take_le l m) (by have := HCN.out; omega))
          have hlB : lens RB ∧ cntB RB ≤ 1001 ∧ RB.src = [] := by
            rw [← HRB.out]
            have hcs : cntL (l.take m) + cntL (l.drop m) = cntL l := by rw [← cntL_append, List.take_append_drop]
            exact rowR_lens (by rw [List.length_drop]; omega) (by have := HCN.out; omega)
          have hx := tw_mem (c := c12) (d := c14) HK12'.out HK14.out hlA.2.2 hlB.2.2 hlA.1 hlB.1
          obtain ⟨RT, hRT⟩ : ∃ RT, rowR [RA, RB] [0, 0] = RT := ⟨_, rfl⟩
          have HNT : Hid (rowE [RA, RB] [0, 0] = 0 ∧ RW.w = RT.w ∧ RW.h = RT.h ∧ RW.d = RT.d ∧ flatB RW 0 0 = flatB RT 0 0 ∧ cntB RT ≤ 803 ∧ cntB RW ≤ 401) := by
            show _ ∧ _
            rw [← hRT, ← HRA.out, ← HRB.out, ← HRW.out]
            exact ⟨HN.out.eT, HN.out.w, HN.out.h, HN.out.d, HN.out.flat, HN.out.cT, HN.out.nAll.cnt⟩
          have hcc : cntL [RA, RB] ≤ 1000 := by
            have h1 := HN.out.nA.cnt
            have h2 := HN.out.nB.cnt
            rw [HRA.out] at h1
            rw [HRB.out] at h2
            rw [cntL_cons, cntL_cons, cntL_nil]
            omega
          clear hlA hlB
          change Calls Try.prog _ #[.slice (some ⟨wc.heap.size, 0, none⟩) [RA, RB].length 2, .slice (some ⟨wc.heap.size + 1, 0, none⟩) [(0 : Int), 0].length 2] (twW wc RA RB A12 A14 c12 c14) _
          refine (hrow_any (some ⟨wc.heap.size, 0, none⟩) [RA, RB] 2 (some ⟨wc.heap.size + 1, 0, none⟩) [0, 0] 2 (twW wc RA RB A12 A14 c12 c14) hcc (by decide) hx.1 hx.2.1).mono ?_
          rintro e w7 hp7
          obtain ⟨A7, c7, rfl, hk7, hb7⟩ := hp7.now
          rw [HNT.out.1, hRT]
          rw [hRT] at hk7
          have HB7 : Hid (Below wc.heap.size wc w7) := below_next hx.2.2 hb7
          have HK7 := Lib.hid hk7
          clear hk7 hb7 hp7 hx hRT hcc HC12 HC14 HD12' HD14 HK14 HK12'
          obtain ⟨W8, hW8⟩ : ∃ W8, w7.alloc (.cells (bxA RT A7 c7 none 0) 28) = W8 := ⟨_, rfl⟩
          have HB8 : Hid (Below w7.heap.size w7 W8) := by rw [← hW8]; exact one_below _ _
          have D16 : Hid (W8.heap[w7.heap.size]? = some (.cells (bxA RT A7 c7 none 0) 28 (0, 0))) := by rw [← hW8]; exact blk_new _ _
          have D10 : Hid (W8.heap[w5.heap.size]? = some (.cells (bxA RW A5 c5 none 0) 28 (0, 0))) := ((below_next HB7.out HB8.out).block _ (Array.getElem?_eq_some_iff.1 HD10'.out).1).trans HD10'.out
          have HKT : Hid (Kids W8 0 W8.heap.size A7 RT.kids) := HK7.out.next HB8.out
          have HKW : Hid (Kids W8 0 W8.heap.size A5 RW.kids) := HK10'.out.next (below_next HB7.out HB8.out)
          have HBW8 : Hid (Below w.heap.size w W8) := below_next HBW14.out (below_next HB7.out HB8.out)
          obtain ⟨F, hF⟩ : ∃ F, flatB RW 0 0 = F := ⟨_, rfl⟩
          have hFT : flatB RT 0 0 = F := by rw [← HNT.out.2.2.2.2.1]; exact hF
          have hFl : F.length ≤ 100000 := by rw [← hF]; have h1 := flat_len (cntB RW) RW (Nat.le_refl _) 0 0; have := HNT.out.2.2.2.2.2.2; omega
          have HF1 : Hid (∀ W' : World, Below W8.heap.size W8 W' → Calls Try.prog 20 #[.agg (bxA RW A5 c5 none 0), .int .i64 0, .int .i64 0] W' (FlatPost F W')) := fun W' hW => by
            rw [← hF]
            exact flat_any 100000 RW (by have := HNT.out.2.2.2.2.2.2; omega) (Nat.le_refl _) A5 c5 none 0 0 0 W' (HKW.out.next hW)
          have HF2 : Hid (∀ W' : World, Below W8.heap.size W8 W' → Calls Try.prog 20 #[.agg (bxA RT A7 c7 none 0), .int .i64 0, .int .i64 0] W' (FlatPost F W')) := fun W' hW => by
            rw [← hFT]
            exact flat_any 100000 RT (by have := HNT.out.2.2.2.2.2.1; omega) (Nat.le_refl _) A7 c7 none 0 0 0 W' (HKT.out.next hW)
          obtain ⟨s16, hs16⟩ : ∃ s16, w7.heap.size = s16 := ⟨_, rfl⟩
          rw [hs16] at D16
          have HS17 : Hid (∀ W' : World, Below W8.heap.size W8 W' → ((W'.cell? ⟨w5.heap.size, 0, none⟩ = some (.int .i64 RW.k) ∧ W'.cell? ⟨w5.heap.size, 1, none⟩ = some (.string RW.nm) ∧ W'.cell? ⟨w5.heap.size, 2, none⟩ = some (.int .i64 RW.sz) ∧ W'.cell? ⟨w5.heap.size, 3, none⟩ = some (.int .i64 RW.w) ∧ W'.cell? ⟨w5.heap.size, 4, none⟩ = some (.int .i64 RW.h) ∧ W'.cell? ⟨w5.heap.size, 5, none⟩ = some (.int .i64 RW.d) ∧ W'.cell? ⟨w5.heap.size, 6, none⟩ = some (.int .i64 RW.x) ∧ W'.cell? ⟨w5.heap.size, 7, none⟩ = some (.int .i64 RW.y) ∧ W'.cell? ⟨w5.heap.size, 8, none⟩ = some (.slice A5 RW.kids.length c5) ∧ W'.cell? ⟨w5.heap.size, 9, none⟩ = some (.int .i64 RW.of_) ∧ W'.cell? ⟨w5.heap.size, 10, none⟩ = some (.slice none RW.src.length 0) ∧ W'.cell? ⟨s16, 0, none⟩ = some (.int .i64 RT.k) ∧ W'.cell? ⟨s16, 1, none⟩ = some (.string RT.nm) ∧ W'.cell? ⟨s16, 2, none⟩ = some (.int .i64 RT.sz) ∧ W'.cell? ⟨s16, 3, none⟩ = some (.int .i64 RT.w) ∧ W'.cell? ⟨s16, 4, none⟩ = some (.int .i64 RT.h) ∧ W'.cell? ⟨s16, 5, none⟩ = some (.int .i64 RT.d) ∧ W'.cell? ⟨s16, 6, none⟩ = some (.int .i64 RT.x) ∧ W'.cell? ⟨s16, 7, none⟩ = some (.int .i64 RT.y) ∧ W'.cell? ⟨s16, 8, none⟩ = some (.slice A7 RT.kids.length c7) ∧ W'.cell? ⟨s16, 9, none⟩ = some (.int .i64 RT.of_) ∧ W'.cell? ⟨s16, 10, none⟩ = some (.slice none RT.src.length 0)))) := fun W' hW => by
            have h1 := (hW.block _ (Array.getElem?_eq_some_iff.1 D10.out).1).trans D10.out
            have h2 := (hW.block _ (Array.getElem?_eq_some_iff.1 D16.out).1).trans D16.out
            exact ⟨blk_cell h1 0 _ rfl, blk_cell h1 1 _ rfl, blk_cell h1 2 _ rfl, blk_cell h1 3 _ rfl, blk_cell h1 4 _ rfl, blk_cell h1 5 _ rfl, blk_cell h1 6 _ rfl, blk_cell h1 7 _ rfl, blk_cell h1 8 _ rfl, blk_cell h1 9 _ rfl, blk_cell h1 10 _ rfl, blk_cell h2 0 _ rfl, blk_cell h2 1 _ rfl, blk_cell h2 2 _ rfl, blk_cell h2 3 _ rfl, blk_cell h2 4 _ rfl, blk_cell h2 5 _ rfl, blk_cell h2 6 _ rfl, blk_cell h2 7 _ rfl, blk_cell h2 8 _ rfl, blk_cell h2 9 _ rfl, blk_cell h2 10 _ rfl⟩
          have hbd : Below W8.heap.size W8 W8.drew := (Below.refl _ _).drew
          clear HB7 HK7 HK10' HB8 HKT HKW hF hFT HBW14 HD10' HP12 HP14
          unfold FlatPost at HF1 HF2
          go_wp2_with fail
          go_region_held3 (fun W => W.cell? ⟨w5.heap.size, 0, none⟩ = some (.int .i64 RW.k) ∧ W.cell? ⟨w5.heap.size, 1, none⟩ = some (.string RW.nm) ∧ W.cell? ⟨w5.heap.size, 2, none⟩ = some (.int .i64 RW.sz) ∧ W.cell? ⟨w5.heap.size, 3, none⟩ = some (.int .i64 RW.w) ∧ W.cell? ⟨w5.heap.size, 4, none⟩ = some (.int .i64 RW.h) ∧ W.cell? ⟨w5.heap.size, 5, none⟩ = some (.int .i64 RW.d) ∧ W.cell? ⟨w5.heap.size, 6, none⟩ = some (.int .i64 RW.x) ∧ W.cell? ⟨w5.heap.size, 7, none⟩ = some (.int .i64 RW.y) ∧ W.cell? ⟨w5.heap.size, 8, none⟩ = some (.slice A5 RW.kids.length c5) ∧ W.cell? ⟨w5.heap.size, 9, none⟩ = some (.int .i64 RW.of_) ∧ W.cell? ⟨w5.heap.size, 10, none⟩ = some (.slice none RW.src.length 0) ∧ W.cell? ⟨s16, 0, none⟩ = some (.int .i64 RT.k) ∧ W.cell? ⟨s16, 1, none⟩ = some (.string RT.nm) ∧ W.cell? ⟨s16, 2, none⟩ = some (.int .i64 RT.sz) ∧ W.cell? ⟨s16, 3, none⟩ = some (.int .i64 RT.w) ∧ W.cell? ⟨s16, 4, none⟩ = some (.int .i64 RT.h) ∧ W.cell? ⟨s16, 5, none⟩ = some (.int .i64 RT.d) ∧ W.cell? ⟨s16, 6, none⟩ = some (.int .i64 RT.x) ∧ W.cell? ⟨s16, 7, none⟩ = some (.int .i64 RT.y) ∧ W.cell? ⟨s16, 8, none⟩ = some (.slice A7 RT.kids.length c7) ∧ W.cell? ⟨s16, 9, none⟩ = some (.int .i64 RT.of_) ∧ W.cell? ⟨s16, 10, none⟩ = some (.slice none RT.src.length 0)) (first | exact HS17.out _ (by with_reducible assumption))
            (first
              | (go_at_call 20; with_reducible refine (HF1.out _ (by with_reducible assumption)).mono ?_; rintro e w8 ⟨⟨A8, c8, rfl, hp8⟩, hb8⟩; have hbS8 : Below W8.heap.size W8 w8 := below_next (by with_reducible assumption) hb8)
              | (go_at_call 20; with_reducible refine (HF2.out _ (by with_reducible assumption)).mono ?_; rintro e w9 ⟨⟨A9, c9, rfl, hp9⟩, hb9⟩; have hbS9 : Below W8.heap.size W8 w9 := below_next (by with_reducible assumption) hb9))
          obtain ⟨wo, hwo⟩ : ∃ wo : World, wo = wr := ⟨_, rfl⟩
          subst hwo
          have q3 : (RW.w != RT.w) = false := by simp [HNT.out.2.1]
          have q4 : (RW.h != RT.h) = false := by simp [HNT.out.2.2.1]
          have q5 : (RW.d != RT.d) = false := by simp [HNT.out.2.2.2.1]
          have HBS := Lib.hid hbS9
          have HPP : Hid (PlAt w9 A8 F ∧ PlAt w9 A9 F) := ⟨hp8.next hb9, hp9⟩
          clear hp8 hp9 hb8 hb9 hbS8 hbS9 hbd HS17 HF1 HF2
          go_wp2_with fail
          clear q3 q4 q5
          go_loopw [20] (fun q wr => ∃ i : Nat, i ≤ F.length ∧ q = .int .i64 (i : Int) ∧ Below w9.heap.size w9 wr) (fun q _ => F.length - (intOf q).toNat)
          case atStart => exact ⟨0, Nat.zero_le _, rfl, Below.refl _ _⟩
          case round =>
            obtain ⟨i, hi, rfl, hbr⟩ := hrel
            have HBR := Lib.hid hbr
            clear hbr
            by_cases hlt : i < F.length
            · obtain ⟨b8, o8, rfl, hb8, hc8⟩ := HPP.out.1 (by omega)
              obtain ⟨b9, o9, rfl, hb9, hc9⟩ := HPP.out.2 (by omega)
              obtain ⟨pl, hpl⟩ : ∃ pl, F[i]? = some pl := ⟨_, List.getElem?_eq_getElem hlt⟩
              obtain ⟨pk, psz, pnm, px, py, pw, ph, pd⟩ := pl
              have HP8 : Hid (∀ W', Below w9.heap.size w9 W' → ∀ j, j < 8 → W'.cell? ⟨b8, o8 + i * 8 + j, none⟩ = (Pl.row ⟨pk, psz, pnm, px, py, pw, ph, pd⟩)[j]?) := fun W' hW j hj => by
                have h1 := plC_at F i j _ hpl hj
                have h2 : j < (Pl.row ⟨pk, psz, pnm, px, py, pw, ph, pd⟩).size := hj
                rw [Array.getElem?_eq_getElem h2] at h1 ⊢
                rw [Nat.add_assoc]
                exact (hW.cell (p := ⟨b8, o8 + (i * 8 + j), none⟩) hb8).trans (hc8 _ _ h1)
              have HP9 : Hid (∀ W', Below w9.heap.size w9 W' → ∀ j, j < 8 → W'.cell? ⟨b9, o9 + i * 8 + j, none⟩ = (Pl.row ⟨pk, psz, pnm, px, py, pw, ph, pd⟩)[j]?) := fun W' hW j hj => by
                have h1 := plC_at F i j _ hpl hj
                have h2 : j < (Pl.row ⟨pk, psz, pnm, px, py, pw, ph, pd⟩).size := hj
                rw [Array.getElem?_eq_getElem h2] at h1 ⊢
                rw [Nat.add_assoc]
                exact (hW.cell (p := ⟨b9, o9 + (i * 8 + j), none⟩) hb9).trans (hc9 _ _ h1)
              clear hc8 hc9 hpl hb8 hb9
              have y0 : wr.cell? ⟨b8, o8 + i * 8, none⟩ = some (.int .i64 pk) := by have h := HP8.out wr HBR.out 0 (by omega); exact h
              have y1 : wr.cell? ⟨b8, o8 + i * 8 + 1, none⟩ = some (.int .i64 psz) := by have h := HP8.out wr HBR.out 1 (by omega); exact h
              have y2 : wr.cell? ⟨b8, o8 + i * 8 + 2, none⟩ = some (.string pnm) := by have h := HP8.out wr HBR.out 2 (by omega); exact h
              have y3 : wr.cell? ⟨b8, o8 + i * 8 + 3, none⟩ = some (.int .i64 px) := by have h := HP8.out wr HBR.out 3 (by omega); exact h
              have y4 : wr.cell? ⟨b8, o8 + i * 8 + 4, none⟩ = some (.int .i64 py) := by have h := HP8.out wr HBR.out 4 (by omega); exact h
              have y5 : wr.cell? ⟨b8, o8 + i * 8 + 5, none⟩ = some (.int .i64 pw) := by have h := HP8.out wr HBR.out 5 (by omega); exact h
              have y6 : wr.cell? ⟨b8, o8 + i * 8 + 6, none⟩ = some (.int .i64 ph) := by have h := HP8.out wr HBR.out 6 (by omega); exact h
              have y7 : wr.cell? ⟨b8, o8 + i * 8 + 7, none⟩ = some (.int .i64 pd) := by have h := HP8.out wr HBR.out 7 (by omega); exact h
              have z0 : wr.cell? ⟨b9, o9 + i * 8, none⟩ = some (.int .i64 pk) := by have h := HP9.out wr HBR.out 0 (by omega); exact h
              have z1 : wr.cell? ⟨b9, o9 + i * 8 + 1, none⟩ = some (.int .i64 psz) := by have h := HP9.out wr HBR.out 1 (by omega); exact h
              have z2 : wr.cell? ⟨b9, o9 + i * 8 + 2, none⟩ = some (.string pnm) := by have h := HP9.out wr HBR.out 2 (by omega); exact h
              have z3 : wr.cell? ⟨b9, o9 + i * 8 + 3, none⟩ = some (.int .i64 px) := by have h := HP9.out wr HBR.out 3 (by omega); exact h
              have z4 : wr.cell? ⟨b9, o9 + i * 8 + 4, none⟩ = some (.int .i64 py) := by have h := HP9.out wr HBR.out 4 (by omega); exact h
              have z5 : wr.cell? ⟨b9, o9 + i * 8 + 5, none⟩ = some (.int .i64 pw) := by have h := HP9.out wr HBR.out 5 (by omega); exact h
              have z6 : wr.cell? ⟨b9, o9 + i * 8 + 6, none⟩ = some (.int .i64 ph) := by have h := HP9.out wr HBR.out 6 (by omega); exact h
              have z7 : wr.cell? ⟨b9, o9 + i * 8 + 7, none⟩ = some (.int .i64 pd) := by have h := HP9.out wr HBR.out 7 (by omega); exact h
              go_wp2_with fail
              go_quiet (fail)
              go_wp2_with fail
              go_roundw
              case rel => exact ⟨i + 1, by omega, by go_num, below_drewN HBR.out _⟩
              case measure => simp [intOf]; omega
            · obtain rfl : i = F.length := by omega
              go_wp2_with fail
              go_ret
              exact ⟨rfl, below_next HBW8.out (below_next HBS.out HBR.out)⟩
        go_region_with (go_at_call 18; refine (HTD.out wn.heap.size _ (by first | exact HBCD | exact below_next HBCD (one_below _ _)) (by simp)).mono ?_; rintro e w7 ⟨⟨A7, c7, rfl, hk7⟩, hb7⟩; have HK7 := Lib.hid hk7; have HB7 := Lib.hid hb7; clear hk7 hb7; try (have d7 : w7.heap[wn.heap.size]? = some (.cells zeroBox 28 (0, 0)) := (HB7.out.block wn.heap.size (by simp)).trans (blk_new _ _); obtain ⟨y0, z0, y1, z1, y2, z2, y3, z3, y4, z4, y5, z5, y6, z6, y7, z7, y8, z8, y9, z9, y10, z10, hd7⟩ := store_box d7 (.int .i64 RB.k) (.string RB.nm) (.int .i64 RB.sz) (.int .i64 RB.w) (.int .i64 RB.h) (.int .i64 RB.d) (.int .i64 RB.x) (.int .i64 RB.y) (.slice A7 RB.kids.length c7) (.int .i64 RB.of_) (.slice none RB.src.length 0); have HD7 := Lib.hid hd7; clear hd7 d7))
        all_goals (go_wp2_with fail; go_meet)
        all_goals first
          | (with_reducible refine NestC.one (w7 := w7) ?_ ?_
             · exact HK7.out w7 (Nat.le_refl _) fun _ _ _ => rfl
             · exact below_next (Below.refl _ _).drew HB7.out)
          | (with_reducible refine NestC.two (p := wn.heap.size) (w7 := w7) (A := A7) (c := c7) rfl ?_ ?_ ?_ ?_ ?_ ?_
             · exact ⟨HD7.out.1, HD7.out.2.1, HD7.out.2.2.1⟩
             · exact fun W' h1 h2 => HK7.out W' h1 fun k h3 h4 => h2 k (h3.imp id fun h5 => Nat.le_trans (Nat.le_of_eq (World.size_alloc _ _).symm) h5) h4
             · exact below_next ((Below.refl _ _).alloc (Nat.le_refl _) _).drew HB7.out
             · exact HD7.out.2.2.2.1
             · exact HD7.out.2.2.2.2.1
             · exact HD7.out.2.2.2.2.2)
      go_region_with (go_at_call 18; refine (HTL.out (w5.alloc (.cells (bxA RW A5 c5 none 0) 28)).heap.size _ (by first | exact HB6.out | exact below_next HB6.out (one_below _ _)) (by simp)).mono ?_; rintro e w7 ⟨⟨A7, c7, rfl, hk7⟩, hb7⟩; have HK7 := Lib.hid hk7; have HB7 := Lib.hid hb7; clear hk7 hb7; try (have d7 : w7.heap[w5.heap.size + 1]? = some (.cells zeroBox 28 (0, 0)) := (HB7.out.block (w5.heap.size + 1) (by simp)).trans (nest_new _ _ _); obtain ⟨y0, z0, y1, z1, y2, z2, y3, z3, y4, z4, y5, z5, y6, z6, y7, z7, y8, z8, y9, z9, y10, z10, hd7⟩ := store_box d7 (.int .i64 RA.k) (.string RA.nm) (.int .i64 RA.sz) (.int .i64 RA.w) (.int .i64 RA.h) (.int .i64 RA.d) (.int .i64 RA.x) (.int .i64 RA.y) (.slice A7 RA.kids.length c7) (.int .i64 RA.of_) (.slice none RA.src.length 0); have HD7 := Lib.hid hd7; clear hd7 d7))
      all_goals (go_wp2_with fail; go_meet)
      all_goals first
        | (with_reducible refine NestC.one (w7 := w7) ?_ ?_
           · exact HK7.out w7 (Nat.le_refl _) fun _ _ _ => rfl
           · exact below_next (Below.refl _ _).drew HB7.out)
        | (with_reducible refine NestC.two (p := w5.heap.size + 1) (w7 := w7) (A := A7) (c := c7) (World.size_alloc _ _) ?_ ?_ ?_ ?_ ?_ ?_
           · exact ⟨HD7.out.1, HD7.out.2.1, HD7.out.2.2.1⟩
           · exact fun W' h1 h2 => HK7.out W' h1 fun k h3 h4 => h2 k (h3.imp id fun h5 => Nat.le_trans (Nat.le_of_eq (World.size_alloc _ _).symm) h5) h4
           · exact below_next ((Below.refl _ _).alloc (Nat.le_refl _) _).drew HB7.out
           · exact HD7.out.2.2.2.1
           · exact HD7.out.2.2.2.2.1
           · exact HD7.out.2.2.2.2.2)
end Go.Proofs.Ytjckbdbjcgjcaaa
