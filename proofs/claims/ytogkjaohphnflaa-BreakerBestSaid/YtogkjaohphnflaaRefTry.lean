/- The reference's try. -/
import Derived.Test.YtogkjaohphnflaaRefBef
import Derived.Test.YtogkjaohphnflaaAppCopy
import Derived.Test.YtogkjaohphnflaaBrkFewest
namespace Go.Proofs.Ytogkjaohphnflaa
open Go.RowKit
/-- The slice A holds l, in a block above lo. -/
def IntsF (W : World) (lo : Nat) (A : Option Addr) (l : List Int) : Prop :=
  0 < l.length → ∃ b off, A = some ⟨b, off, none⟩ ∧ lo < b ∧ b < W.heap.size ∧ ∀ k, k < l.length → W.cell? ⟨b, off + k, none⟩ = some (.int .i64 (lAt l k))
theorem IntsF.ints {W : World} {lo : Nat} {A : Option Addr} {l : List Int} (h : IntsF W lo A l) : Ints W W.heap.size A l := fun h0 => by
  obtain ⟨b, off, e, _, hb, hc⟩ := h h0
  exact ⟨b, off, e, hb, hc⟩
theorem cell_block {w w' : World} {b : Nat} (h : w'.heap[b]? = w.heap[b]?) (o : Nat) : w'.cell? ⟨b, o, none⟩ = w.cell? ⟨b, o, none⟩ := World.cell?_of_block (w := w) h
theorem IntsF.grown {W W' : World} {lo : Nat} {A : Option Addr} {l : List Int} (h : IntsF W lo A l) (hg : W.grownBy W' (some lo)) : IntsF W' lo A l := fun h0 => by
  obtain ⟨b, off, e, hl, hb, hc⟩ := h h0
  exact ⟨b, off, e, hl, Nat.lt_of_lt_of_le hb hg.size, fun k hk => (cell_block (hg.block b hb (by simp; omega)) _).trans (hc k hk)⟩
theorem below_grown {W W' : World} (h : Below W.heap.size W W') (r : Option Nat) : W.grownBy W' r := ⟨h.os, h.tape, h.output, h.size, fun k hk _ => h.block k hk⟩
theorem grown_refl (W : World) (r : Option Nat) : W.grownBy W r := ⟨rfl, rfl, rfl, Nat.le_refl _, fun _ _ _ => rfl⟩
theorem grown_trans {a b c : World} {r : Option Nat} (h : a.grownBy b r) (k : b.grownBy c r) : a.grownBy c r :=
  ⟨k.os.trans h.os, k.tape.trans h.tape, k.output.trans h.output, Nat.le_trans h.size k.size, fun i hi hne => (k.block i (Nat.lt_of_lt_of_le hi h.size) hne).trans (h.block i hi hne)⟩
theorem grown_set {a b : World} {p : Addr} (h : a.grownBy b (some p.block)) (v : Value) : a.grownBy (b.setCell p v) (some p.block) :=
  ⟨h.os, h.tape, h.output, by simp only [World.setCell, Array.size_modify]; exact h.size, fun i hi hne => (Below.heap_setCell _ _ _ _ (fun e => hne (by rw [e]))).trans (h.block i hi hne)⟩
theorem grown_below {W W' : World} {r B : Nat} (h : W.grownBy W' (some r)) (hB : B ≤ r) (hs : B ≤ W.heap.size) : Below B W W' := ⟨h.os, h.tape, h.output, h.size, fun k hk => h.block k (by omega) (by simp; omega)⟩
def RsAt (W : World) (bR : Nat) (cs : Array Value) (k : Nat) (x : Rs) : Prop :=
  ∃ A c, cs[k * 3]? = some (.slice A x.st.length c) ∧ cs[k * 3 + 1]? = some (.int .i64 x.tot) ∧ cs[k * 3 + 2]? = some (.bool x.fd) ∧ IntsF W bR A (x.st.map Int.ofNat)
/-- Block bR holds the results B 0, .., B n. -/
def Rss (W : World) (bR n : Nat) (B : Nat → Rs) : Prop := ∃ cs, W.heap[bR]? = some (.cells cs 58 (0, 0)) ∧ ∀ k, k ≤ n → RsAt W bR cs k (B k)
theorem Rss.next {W W' : World} {bR n : Nat} {B : Nat → Rs} (h : Rss W bR n B) (hb : Below W.heap.size W W') : Rss W' bR n B := by
  obtain ⟨cs, h1, h2⟩ := h
  refine ⟨cs, (hb.block _ (Array.getElem?_eq_some_iff.1 h1).1).trans h1, fun k hk => ?_⟩
  obtain ⟨A, c, e1, e2, e3, e4⟩ := h2 k hk
  exact ⟨A, c, e1, e2, e3, e4.grown (below_grown hb _)⟩
theorem Rss.congr {W : World} {bR n : Nat} {B B' : Nat → Rs} (h : Rss W bR n B) (e : ∀ k, k ≤ n → B k = B' k) : Rss W bR n B' := by
  obtain ⟨cs, h1, h2⟩ := h
  exact ⟨cs, h1, fun k hk => by rw [← e k hk]; exact h2 k hk⟩
theorem Rss.set {W : World} {bR n k : Nat} {B : Nat → Rs} (h : Rss W bR n B) (hk : k ≤ n) {A : Option Addr} {c : Nat} {s : List Nat} (hI : IntsF W bR A (s.map Int.ofNat)) (t : Int) :
    Rss (((W.setCell ⟨bR, k * 3, none⟩ (.slice A s.length c)).setCell ⟨bR, k * 3 + 1, none⟩ (.int .i64 t)).setCell ⟨bR, k * 3 + 2, none⟩ (.bool true)) bR n (fun j => if j = k then ⟨s, t, true⟩ else B j) := by
  obtain ⟨cs, h1, h2⟩ := h
  have hg : W.grownBy (((W.setCell ⟨bR, k * 3, none⟩ (.slice A s.length c)).setCell ⟨bR, k * 3 + 1, none⟩ (.int .i64 t)).setCell ⟨bR, k * 3 + 2, none⟩ (.bool true)) (some bR) :=
    grown_set (p := ⟨bR, k * 3 + 2, none⟩) (grown_set (p := ⟨bR, k * 3 + 1, none⟩) (grown_set (p := ⟨bR, k * 3, none⟩) (grown_refl _ _) _) _) _
  refine ⟨_, blk_set (blk_set (blk_set h1 (k * 3) _) (k * 3 + 1) _) (k * 3 + 2) _, fun j hj => ?_⟩
  obtain ⟨A', c', e0, e1, e2, e3⟩ := h2 j hj
  obtain ⟨Ak, ck, k0, k1, k2, _⟩ := h2 k hk
  have b0 := (Array.getElem?_eq_some_iff.1 k0).1
  have b1 := (Array.getElem?_eq_some_iff.1 k1).1
  have b2 := (Array.getElem?_eq_some_iff.1 k2).1
  dsimp only
  by_cases e : j = k
  · subst e
    rw [if_pos rfl]
    refine ⟨A, c, ?_, ?_, ?_, hI.grown hg⟩
    · simp only [Array.getElem?_setIfInBounds, Array.size_setIfInBounds]
      rw [if_neg (by omega), if_neg (by omega), if_pos trivial, if_pos b0]
    · simp only [Array.getElem?_setIfInBounds, Array.size_setIfInBounds]
      rw [if_neg (by omega), if_pos trivial, if_pos b1]
    · simp only [Array.getElem?_setIfInBounds, Array.size_setIfInBounds]
      rw [if_pos trivial, if_pos b2]
  · rw [if_neg e]
    refine ⟨A', c', ?_, ?_, ?_, e3.grown hg⟩
    · simp only [Array.getElem?_setIfInBounds, Array.size_setIfInBounds]
      rw [if_neg (by omega), if_neg (by omega), if_neg (by omega)]; exact e0
    · simp only [Array.getElem?_setIfInBounds, Array.size_setIfInBounds]
      rw [if_neg (by omega), if_neg (by omega), if_neg (by omega)]; exact e1
    · simp only [Array.getElem?_setIfInBounds, Array.size_setIfInBounds]
      rw [if_neg (by omega), if_neg (by omega), if_neg (by omega)]; exact e2
theorem IntsF.of {W : World} {g lo : Nat} {A : Option Addr} {l : List Int} (h : Copied g 3 (l.map (Value.int .i64)) l.length A W) (hlo : lo < g) : IntsF W lo A l := fun h0 => by
  obtain ⟨b, cur, rfl, hg, hb, hc⟩ := h h0
  refine ⟨b, 0, rfl, by omega, (Array.getElem?_eq_some_iff.1 hb).1, fun k hk => ?_⟩
  rw [Nat.zero_add]
  refine blk_cell hb k _ (hc k _ ?_)
  rw [List.getElem?_map, List.getElem?_eq_getElem hk]
  simp [lAt, List.getD, hk]
theorem ints_src {W : World} {B : Nat} {A : Option Addr} {l : List Int} (h : Ints W B A l) : 0 < l.length → ∃ b off, A = some ⟨b, off, none⟩ ∧ ∀ j u, (l.map (Value.int .i64))[j]? = some u → W.cell? ⟨b, off + j, none⟩ = some u := fun h0 => by
  obtain ⟨b, off, rfl, _, hc⟩ := h h0
  refine ⟨b, off, rfl, fun j u hu => ?_⟩
  rw [List.getElem?_map] at hu
  obtain ⟨x, hx, rfl⟩ := Option.map_eq_some_iff.1 hu
  have hj := (List.getElem?_eq_some_iff.1 hx).1
  have := hc j hj
  simpa [lAt, List.getD, hx] using this
theorem ints_cell1 (l : List Int) : ∀ u ∈ l.map (Value.int .i64), u.oneCell' = true := fun u hu => by
  obtain ⟨j, _, rfl⟩ := List.mem_map.1 hu
  rfl
/-! ### What try does -/
def plc (s : List Nat) (m : Nat) : Nat := if m = 0 then 0 else s.length
def tryM (B : Nat → Rs) (s : List Nat) (t : Int) : Nat → Nat → Rs
  | 0 => B
  | m + 1 => fun k => if k = plc s m then upd (tryM B s t m k) s t else tryM B s t m k
theorem tryM_yes {B : Nat → Rs} {s : List Nat} {t : Int} {m : Nat} (h : updB (tryM B s t m (plc s m)) s t = true) (k : Nat) : (if k = plc s m then ⟨s, t, true⟩ else tryM B s t m k : Rs) = tryM B s t (m + 1) k := by
  show _ = (if k = plc s m then upd (tryM B s t m k) s t else tryM B s t m k)
  by_cases e : k = plc s m
  · subst e
    rw [if_pos rfl, if_pos rfl]
    unfold upd
    rw [if_pos h]
  · rw [if_neg e, if_neg e]
theorem tryM_no {B : Nat → Rs} {s : List Nat} {t : Int} {m : Nat} (h : updB (tryM B s t m (plc s m)) s t = false) (k : Nat) : tryM B s t m k = tryM B s t (m + 1) k := by
  show _ = (if k = plc s m then upd (tryM B s t m k) s t else tryM B s t m k)
  by_cases e : k = plc s m
  · subst e
    rw [if_pos rfl]
    unfold upd
    rw [if_neg (by rw [h]; simp)]
  · rw [if_neg e]
theorem rTotal_nat {t E : Int} (A A2 : Option Addr) (c c2 : Nat) (ps : List Pc) (s : List Nat) (wd ind : Int) (w : World) (hn : totN ps (s.map Int.ofNat) wd ind = t) (he : totE ps (s.map Int.ofNat) wd ind = E) (hm : ps.length ≤ lenMax) (hl : s.length ≤ lenMax) (hP : Pcs w w.heap.size A ps) (hI : Ints w w.heap.size A2 (s.map Int.ofNat)) :
    Calls Try.prog 39 #[.slice A ps.length c, .slice A2 s.length c2, .int .i64 wd, .int .i64 ind] w fun e w' => e = .returned (.tuple #[.int .i64 t, .int .i64 E]) ∧ Below w.heap.size w w' := by
  have h := rTotal_any A A2 c c2 ps (s.map Int.ofNat) wd ind w hm (by rw [List.length_map]; exact hl) hP hI
  rw [List.length_map, hn, he] at h
  exact h
theorem tryM_len {B : Nat → Rs} {s : List Nat} {t : Int} {N k : Nat} (hB : (B k).st.length ≤ N) (hs : s.length ≤ N) : ∀ m, (tryM B s t m k).st.length ≤ N
  | 0 => hB
  | m + 1 => by
    have ih := tryM_len (t := t) hB hs m
    show (if k = plc s m then upd (tryM B s t m k) s t else tryM B s t m k).st.length ≤ N
    unfold upd
    split
    · split
      · exact hs
      · exact ih
    · exact ih
def TryTo (bR n : Nat) (B : Nat → Rs) (w : World) (e : Ending) (w' : World) : Prop := (∃ v, e = .returned v) ∧ Rss w' bR n B ∧ Below bR w w'
theorem try_no (bR n cR : Nat) (A A2 : Option Addr) (c c2 : Nat) (ps : List Pc) (s : List Nat) (wd ind : Int) (B : Nat → Rs) (w : World) (hm : ps.length ≤ lenMax) (hl : s.length ≤ lenMax) (hP : Pcs w w.heap.size A ps) (hI : Ints w w.heap.size A2 (s.map Int.ofNat)) (hR : Rss w bR n B) (hb : bR ≤ w.heap.size)
    (hn : totN ps (s.map Int.ofNat) wd ind = 0) (he : totE ps (s.map Int.ofNat) wd ind = 6) :
    Calls Try.prog 36 #[.slice (some ⟨bR, 0, none⟩) (n + 1) cR, .slice A ps.length c, .slice A2 s.length c2, .int .i64 wd, .int .i64 ind] w (TryTo bR n B w) := by
  have HC := Lib.hid (rTotal_nat A A2 c c2 ps s wd ind w hn he hm hl hP hI)
  have HR := Lib.hid hR
  clear hR hn he hP hI
  go_enter Try.func36, Try.ntmps36
  go_wp2_with fail
  refine HC.out.mono ?_
  rintro e w1 ⟨rfl, hb1⟩
  go_wp2
  refine bodyPost_ret (results_none rfl _ _ _) rfl ?_
  exact ⟨⟨_, rfl⟩, HR.out.next hb1, hb1.mono hb⟩
set_option maxRecDepth 100000 in
set_option maxHeartbeats 2000000 in
theorem try_yes (bR n cR : Nat) (A A2 : Option Addr) (c c2 : Nat) (ps : List Pc) (s : List Nat) (wd ind t : Int) (B : Nat → Rs) (w : World) (hm : ps.length ≤ 64) (hn : n = ps.length) (hs1 : 1 ≤ s.length) (hs2 : s.length ≤ ps.length) (hP : Pcs w bR A ps) (hI : IntsF w bR A2 (s.map Int.ofNat)) (hR : Rss w bR n B) (hsB : ∀ k, k ≤ n → (B k).st.length ≤ 64)
    (htn : totN ps (s.map Int.ofNat) wd ind = t) (he : totE ps (s.map Int.ofNat) wd ind = 0) :
    Calls Try.prog 36 #[.slice (some ⟨bR, 0, none⟩) (n + 1) cR, .slice A ps.length c, .slice A2 s.length c2, .int .i64 wd, .int .i64 ind] w (TryTo bR n (tryM B s t 2) w) := by
  have hbR : bR < w.heap.size := by obtain ⟨cs, h, _⟩ := hR; exact (Array.getElem?_eq_some_iff.1 h).1
  have HC := Lib.hid (rTotal_nat A A2 c c2 ps s wd ind w htn he (by unfold lenMax; omega) (by unfold lenMax; omega) (hP.mono (by omega)) hI.ints)
  have HR := Lib.hid hR
  have HI := Lib.hid hI
  have HP := Lib.hid hP
  have HSB := Lib.hid hsB
  have HN := Lib.hid hn
  have hn' : ps.length ≤ n := by omega
  clear hR htn he hP hI hsB hn
  obtain ⟨i0, hi0, hz0, hz1, hz2⟩ := info_parts infoI
  go_enter Try.func36, Try.ntmps36
  go_wp2_with fail
  refine HC.out.mono ?_
  rintro e w1 ⟨rfl, hb1⟩
  go_wp2_with fail
  obtain ⟨bp, hbp⟩ : ∃ bp, bp = w1.heap.size := ⟨_, rfl⟩
  have hbb : bR < bp := by rw [hbp]; have := hb1.size; omega
  have m0 := blk_new w1 (.cells #[.int .i64 0, .int .i64 (s.length : Int)] 69)
  have ms : (w1.alloc (.cells #[.int .i64 0, .int .i64 (s.length : Int)] 69)).heap.size = bp + 1 := by rw [hbp]; simp
  have mB : Below w.heap.size w (w1.alloc (.cells #[.int .i64 0, .int .i64 (s.length : Int)] 69)) := hb1.alloc hb1.size _
  have mR : Rss (w1.alloc (.cells #[.int .i64 0, .int .i64 (s.length : Int)] 69)) bR n B := HR.out.next mB
  rw [← hbp] at m0 ⊢
  generalize (w1.alloc (.cells #[.int .i64 0, .int .i64 (s.length : Int)] 69)) = W0 at m0 ms mB mR ⊢
  have HM0 := Lib.hid m0
  have HMB := Lib.hid mB
  have HMR := Lib.hid mR
  have HIW : Hid (IntsF W0 bR A2 (s.map Int.ofNat)) := HI.out.grown (below_grown mB _)
  have hbp0 : bp < W0.heap.size := by omega
  clear m0 mB mR hbp hb1 w1
  go_loopw [13] (fun q wr => ∃ m : Nat, m ≤ 2 ∧ q = .int .i64 (m : Int) ∧ Rss wr bR n (tryM B s t m) ∧ W0.grownBy wr (some bR)) (fun q _ => 2 - (intOf q).toNat)
  case atStart => exact ⟨0, by omega, rfl, HMR.out, grown_refl _ _⟩
  case round =>
    obtain ⟨m, hm2, rfl, hR, hg⟩ := hrel
    have hgs := hg.size
    have HG := Lib.hid hg
    have HRR := Lib.hid hR
    clear hg hR
    by_cases hlt : m < 2
    · have hpl : plc s m ≤ n := by unfold plc; split <;> omega
      have l0 : wr.cell? ⟨bp, m, none⟩ = some (.int .i64 (plc s m : Int)) := by
        refine (cell_block (HG.out.block bp hbp0 (by simp; omega)) m).trans (blk_cell HM0.out m _ ?_)
        match m, hlt with
        | 0, _ => rfl
        | 1, _ => rfl
      obtain ⟨p, hp⟩ : ∃ p, plc s m = p := ⟨_, rfl⟩
      rw [hp] at l0 hpl
      obtain ⟨cs, hcs, hall⟩ := HRR.out
      obtain ⟨Ax, cx, x0, x1, x2, xI⟩ := hall p hpl
      obtain ⟨x, hx⟩ : ∃ x, tryM B s t m p = x := ⟨_, rfl⟩
      rw [hx] at x0 x1 x2 xI
      replace x0 := blk_cell hcs (p * 3) _ x0
      replace x1 := blk_cell hcs (p * 3 + 1) _ x1
      replace x2 := blk_cell hcs (p * 3 + 2) _ x2
      have z0 := blk_free hcs (p * 3)
      have z1 := blk_free hcs (p * 3 + 1)
      have z2 := blk_free hcs (p * 3 + 2)
      have HCS := Lib.hid hcs
      have HXI := Lib.hid xI
      have HPX := Lib.hid (And.intro hp hx)
      have hm1 : (m : Int) < 2 := by omega
      have hp1 : (p : Int) < (n : Int) + 1 := by omega
      have hp2 : p < n + 1 := by omega
      clear hcs hall xI hp hx
      have hbn : bR < wr.heap.size := (Array.getElem?_eq_some_iff.1 HCS.out).1
      have hsrc : ∀ Y, Below wr.heap.size wr Y → 0 < s.length → ∃ b off, A2 = some ⟨b, off, none⟩ ∧ ∀ j u, ((s.map Int.ofNat).map (Value.int .i64))[j]? = some u → (Y.alloc (.cells #[] 3)).cell? ⟨b, off + j, none⟩ = some u := fun Y hY h0 =>
        ints_src ((HIW.out.grown HG.out).ints.below (hY.alloc hY.size _)) (by rw [List.length_map]; exact h0)
      have hkeep : ∀ Y, Below wr.heap.size wr Y → (Y.cell? ⟨bR, p * 3, none⟩ = some (.slice Ax x.st.length cx) ∧ Y.cell? ⟨bR, p * 3 + 1, none⟩ = some (.int .i64 x.tot) ∧ Y.cell? ⟨bR, p * 3 + 2, none⟩ = some (.bool x.fd)) ∧
          Y.frozen? ⟨bR, p * 3, none⟩ = false ∧ Y.frozen? ⟨bR, p * 3 + 1, none⟩ = false ∧ Y.frozen? ⟨bR, p * 3 + 2, none⟩ = false := fun Y hY =>
        ⟨⟨(hY.cell (p := ⟨bR, p * 3, none⟩) hbn).trans x0, (hY.cell (p := ⟨bR, p * 3 + 1, none⟩) hbn).trans x1, (hY.cell (p := ⟨bR, p * 3 + 2, none⟩) hbn).trans x2⟩,
          (hY.frozen (p := ⟨bR, p * 3, none⟩) hbn).trans z0, (hY.frozen (p := ⟨bR, p * 3 + 1, none⟩) hbn).trans z1, (hY.frozen (p := ⟨bR, p * 3 + 2, none⟩) hbn).trans z2⟩
      have hyes : updB x s t = true → ∀ V c5 A5, Below wr.heap.size wr V → IntsF V bR A5 (s.map Int.ofNat) →
          Rss (((V.setCell ⟨bR, p * 3, none⟩ (.slice A5 s.length c5)).setCell ⟨bR, p * 3 + 1, none⟩ (.int .i64 t)).setCell ⟨bR, p * 3 + 2, none⟩ (.bool true)) bR n (tryM B s t (m + 1)) ∧
          W0.grownBy (((V.setCell ⟨bR, p * 3, none⟩ (.slice A5 s.length c5)).setCell ⟨bR, p * 3 + 1, none⟩ (.int .i64 t)).setCell ⟨bR, p * 3 + 2, none⟩ (.bool true)) (some bR) := fun hu V c5 A5 hV hI5 => by
        refine ⟨((HRR.out.next hV).set hpl hI5 t).congr (fun k _ => ?_), grown_set (p := ⟨bR, p * 3 + 2, none⟩) (grown_set (p := ⟨bR, p * 3 + 1, none⟩) (grown_set (p := ⟨bR, p * 3, none⟩) (grown_trans HG.out (below_grown hV _)) _) _) _⟩
        rw [← HPX.out.1]
        exact tryM_yes (by rw [HPX.out.1, HPX.out.2]; exact hu) k
      have hno : updB x s t = false → ∀ V, Below wr.heap.size wr V → Rss V bR n (tryM B s t (m + 1)) ∧ W0.grownBy V (some bR) := fun hu V hV =>
        ⟨(HRR.out.next hV).congr (fun k _ => tryM_no (by rw [HPX.out.1, HPX.out.2]; exact hu) k), grown_trans HG.out (below_grown hV _)⟩
      have HSRC := Lib.hid hsrc
      have HKEEP := Lib.hid hkeep
      have HYES := Lib.hid hyes
      have HNO := Lib.hid hno
      clear hsrc hkeep hyes hno x0 z0 z1 z2
      obtain ⟨tot, htot⟩ : ∃ tot, x.tot = tot := ⟨_, rfl⟩
      rw [htot] at x1
      cases hfd : x.fd
      · rw [hfd] at x2
        have HU : Hid (updB x s t = true) := by show _ = _; unfold updB; rw [hfd]; rfl
        rw [htot, hfd] at HKEEP
        clear hfd htot
        go_wp2_with (at_builtin; refine wpList_append_copy rfl _ _ 27 3 rfl i0 (.int .i64 0) 1 8 Try.underlying27 hi0 hz0 hz1 hz2 rfl (by decide) rfl rfl (heap_alloc_new _ _) ((s.map Int.ofNat).map (Value.int .i64)) (by simp) (HSRC.out _ (Below.refl _ _)) (ints_cell1 _) (by unfold maxLen; omega) (by omega) ?_; intro A5 c5 w5 hcp hb5; have HB5 : Hid (Below wr.heap.size wr w5) := ((Below.refl wr.heap.size wr).alloc (Nat.le_refl _) _).trans hb5; have HI5 : Hid (IntsF w5 bR A5 (s.map Int.ofNat)) := IntsF.of (g := wr.heap.size) (by rw [List.length_map]; exact hcp) (by omega); obtain ⟨⟨y0, y1, y2⟩, v0, v1, v2⟩ := HKEEP.out _ HB5.out; clear hcp hb5)
        go_roundw
        case rel => exact ⟨m + 1, by omega, by go_num, (HYES.out HU.out _ _ _ HB5.out HI5.out).1, (HYES.out HU.out _ _ _ HB5.out HI5.out).2⟩
        case measure => simp [intOf]; omega
      · rw [hfd] at x2
        rw [htot, hfd] at HKEEP
        by_cases hlt2 : t < tot
        · have HU : Hid (updB x s t = true) := by show _ = _; unfold updB; rw [hfd, htot, decide_eq_true hlt2]; rfl
          clear hfd htot
          go_wp2_with (at_builtin; refine wpList_append_copy rfl _ _ 27 3 rfl i0 (.int .i64 0) 1 8 Try.underlying27 hi0 hz0 hz1 hz2 rfl (by decide) rfl rfl (heap_alloc_new _ _) ((s.map Int.ofNat).map (Value.int .i64)) (by simp) (HSRC.out _ (Below.refl _ _)) (ints_cell1 _) (by unfold maxLen; omega) (by omega) ?_; intro A5 c5 w5 hcp hb5; have HB5 : Hid (Below wr.heap.size wr w5) := ((Below.refl wr.heap.size wr).alloc (Nat.le_refl _) _).trans hb5; have HI5 : Hid (IntsF w5 bR A5 (s.map Int.ofNat)) := IntsF.of (g := wr.heap.size) (by rw [List.length_map]; exact hcp) (by omega); obtain ⟨⟨y0, y1, y2⟩, v0, v1, v2⟩ := HKEEP.out _ HB5.out; clear hcp hb5)
          go_roundw
          case rel => exact ⟨m + 1, by omega, by go_num, (HYES.out HU.out _ _ _ HB5.out HI5.out).1, (HYES.out HU.out _ _ _ HB5.out HI5.out).2⟩
          case measure => simp [intOf]; omega
        · by_cases heq : t = tot
          · subst heq
            have hxl : x.st.length ≤ 64 := by rw [← HPX.out.2]; exact tryM_len (HSB.out p hpl) (by omega) m
            have x0 := (HKEEP.out _ (Below.refl _ _)).1.1
            have HXN : Hid (Ints wr wr.heap.size Ax (x.st.map Int.ofNat)) := HXI.out.ints
            have HSN : Hid (Ints wr wr.heap.size A2 (s.map Int.ofNat)) := (HIW.out.grown HG.out).ints
            cases hbf : bef s x.st
            · have HU : Hid (updB x s t = false) := by show _ = _; unfold updB; rw [hfd, htot, hbf, decide_eq_false (Int.lt_irrefl t)]; simp
              have HBF := Lib.hid hbf
              clear hfd htot hbf
              go_wp2_with fail
              refine (before_any A2 Ax c2 cx s x.st _ HBF.out (by omega) hxl HSN.out HXN.out).mono ?_
              rintro e w4 ⟨rfl, hb4⟩
              go_wp2
              go_roundw
              case rel => exact ⟨m + 1, by omega, by go_num, (HNO.out HU.out _ hb4).1, (HNO.out HU.out _ hb4).2⟩
              case measure => simp [intOf]; omega
            · have HU : Hid (updB x s t = true) := by show _ = _; unfold updB; rw [hfd, htot, hbf, decide_eq_true rfl]; simp
              have HBF := Lib.hid hbf
              clear hfd htot hbf
              go_wp2_with fail
              refine (before_any A2 Ax c2 cx s x.st _ HBF.out (by omega) hxl HSN.out HXN.out).mono ?_
              rintro e w4 ⟨rfl, hb4⟩
              have HB4 := Lib.hid hb4
              have hw4 := hb4.size
              clear hb4
              go_wp2_with (at_builtin; refine wpList_append_copy rfl _ _ 27 3 rfl i0 (.int .i64 0) 1 8 Try.underlying27 hi0 hz0 hz1 hz2 rfl (by decide) rfl rfl (heap_alloc_new _ _) ((s.map Int.ofNat).map (Value.int .i64)) (by simp) (HSRC.out _ HB4.out) (ints_cell1 _) (by unfold maxLen; omega) (by omega) ?_; intro A5 c5 w5 hcp hb5; have HB5 : Hid (Below wr.heap.size wr w5) := (HB4.out.alloc HB4.out.size _).trans (hb5.mono HB4.out.size); have HI5 : Hid (IntsF w5 bR A5 (s.map Int.ofNat)) := IntsF.of (g := w4.heap.size) (by rw [List.length_map]; exact hcp) (by omega); obtain ⟨⟨y0, y1, y2⟩, v0, v1, v2⟩ := HKEEP.out _ HB5.out; clear hcp hb5)
              go_roundw
              case rel => exact ⟨m + 1, by omega, by go_num, (HYES.out HU.out _ _ _ HB5.out HI5.out).1, (HYES.out HU.out _ _ _ HB5.out HI5.out).2⟩
              case measure => simp [intOf]; omega
          · have HU : Hid (updB x s t = false) := by show _ = _; unfold updB; rw [hfd, htot, decide_eq_false hlt2, decide_eq_false heq]; simp
            have hgt : tot < t := by omega
            have h3 : (t == tot) = false := by simp; omega
            clear hfd htot
            go_wp2
            go_roundw
            case rel => exact ⟨m + 1, by omega, by go_num, (HNO.out HU.out _ (Below.refl _ _)).1, (HNO.out HU.out _ (Below.refl _ _)).2⟩
            case measure => simp [intOf]; omega
    · obtain rfl : m = 2 := by omega
      go_wp2
      refine bodyPost_ret (results_none rfl _ _ _) rfl ?_
      exact ⟨⟨_, rfl⟩, HRR.out, (HMB.out.mono (by omega)).trans (grown_below HG.out (Nat.le_refl _) (by omega))⟩
end Go.Proofs.Ytogkjaohphnflaa
