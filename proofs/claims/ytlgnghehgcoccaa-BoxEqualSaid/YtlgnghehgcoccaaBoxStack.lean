/- Stacks of pointers to boxes; the program's Count. -/
import Derived.Test.YtlgnghehgcoccaaBoxPlain
import Derived.Test.YtlgnghehgcoccaaAppEl
import Derived.Test.YtlgnghehgcoccaaChecked
import Derived.Laws.MakeOwn
namespace Go.Proofs.Ytlgnghehgcoccaa
open Go.RowKit
theorem info_parts {P : Program} {t : TypeId} {z : Value} {s b : Nat} (h : (P.info? t).map (fun i => (i.zero, i.size, i.bytes)) = some (some z, s, b)) : ∃ i, P.info? t = some i ∧ i.zero = some z ∧ i.size = s ∧ i.bytes = b := by
  cases hi : P.info? t with
  | none => rw [hi] at h; cases h
  | some i =>
    rw [hi] at h
    simp only [Option.map_some, Option.some.injEq, Prod.mk.injEq] at h
    exact ⟨i, rfl, h.1, h.2.1, h.2.2⟩
theorem infoPtr : (Try.prog.info? 48).map (fun i => (i.zero, i.size, i.bytes)) = some (some (.pointer none), 1, 8) := by kernel_rfl
/-- A pointer to a box, whose memory lies below block hi. -/
def Ent (W : World) (hi : Nat) (v : Value) (t : Bx) : Prop := ∃ b o A c A' c', v = .pointer (some ⟨b, o, none⟩) ∧ b < hi ∧ BoxAt W b o t A c A' c' ∧ Kids W 0 hi A t.kids ∧ Ints W 0 hi A' t.src ∧ lens t
/-- A stack of such pointers. -/
def Stk (W : World) (hi : Nat) : List Value → List Bx → Prop
  | [], [] => True
  | v :: vs, t :: ts => Ent W hi v t ∧ Stk W hi vs ts
  | _, _ => False
theorem Stk.len {W : World} {hi : Nat} : ∀ {vs : List Value} {ts : List Bx}, Stk W hi vs ts → vs.length = ts.length
  | [], [], _ => rfl
  | v :: vs, t :: ts, h => by simp [Stk.len h.2]
  | [], _ :: _, h => h.elim
  | _ :: _, [], h => h.elim
theorem Stk.append {W : World} {hi : Nat} : ∀ {vs : List Value} {ts : List Bx} {vs' : List Value} {ts' : List Bx}, Stk W hi vs ts → Stk W hi vs' ts' → Stk W hi (vs ++ vs') (ts ++ ts')
  | [], [], _, _, _, h => h
  | v :: vs, t :: ts, _, _, h, h' => ⟨h.1, Stk.append h.2 h'⟩
  | [], _ :: _, _, _, h, _ => h.elim
  | _ :: _, [], _, _, h, _ => h.elim
theorem Stk.one {W : World} {hi : Nat} {v : Value} {t : Bx} (h : Ent W hi v t) : Stk W hi [v] [t] := ⟨h, trivial⟩
theorem Stk.last {W : World} {hi : Nat} : ∀ {vs : List Value} {ts : List Bx}, Stk W hi vs ts → 0 < vs.length → ∃ vs' v ts' t, vs = vs' ++ [v] ∧ ts = ts' ++ [t] ∧ Stk W hi vs' ts' ∧ Ent W hi v t
  | [], _, _, h0 => absurd h0 (by simp)
  | [v], t :: ts, h, _ => by
    have : ts = [] := by
      cases ts with
      | nil => rfl
      | cons a b => exact h.2.elim
    subst this
    exact ⟨[], v, [], t, rfl, rfl, trivial, h.1⟩
  | v :: v2 :: vs, t :: ts, h, _ => by
    obtain ⟨vs', x, ts', y, e1, e2, h1, h2⟩ := Stk.last h.2 (by simp)
    exact ⟨v :: vs', x, t :: ts', y, by rw [e1]; rfl, by rw [e2]; rfl, ⟨h.1, h1⟩, h2⟩
  | _ :: _, [], h, _ => h.elim
/-- The pointers to the first n kids. -/
def kptr (b off : Nat) (n : Nat) : List Value := (List.range n).map fun j => .pointer (some ⟨b, off + j * 11, none⟩)
theorem kptr_succ (b off n : Nat) : kptr b off (n + 1) = kptr b off n ++ [.pointer (some ⟨b, off + n * 11, none⟩)] := by unfold kptr; rw [List.range_succ, List.map_append]; rfl
theorem kptr_len (b off n : Nat) : (kptr b off n).length = n := by simp [kptr]
theorem kptr_stk {W : World} {hi : Nat} {b off : Nat} {l : List Bx} (h : Kids W 0 hi (some ⟨b, off, none⟩) l) : ∀ n, n ≤ l.length → Stk W hi (kptr b off n) (l.take n)
  | 0, _ => by simp [kptr, Stk]
  | n + 1, hn => by
    rw [kptr_succ, take_kid l (by omega)]
    refine (kptr_stk h n (by omega)).append (Stk.one ?_)
    obtain ⟨b', off', A1, c1, A2, c2, e, _, hb, hat, hk, hi', hl⟩ := h.at (show n < l.length by omega)
    injection e with e1
    injection e1 with e2 e3
    subst e2 e3
    exact ⟨_, _, A1, c1, A2, c2, rfl, hb, hat, hk, hi', hl⟩
/-- The pointers to the first n kids from A on. -/
def kptrA : Option Addr → Nat → List Value
  | some a, n => kptr a.block a.off n
  | none, _ => []
theorem kptrA_zero (A : Option Addr) : kptrA A 0 = [] := by cases A <;> rfl
theorem kptrA_len {W : World} {hi : Nat} {A : Option Addr} {l : List Bx} (h : Kids W 0 hi A l) : (kptrA A l.length).length = l.length := by
  by_cases h0 : 0 < l.length
  · obtain ⟨b, off, _, _, _, _, rfl, _⟩ := h.at h0
    exact kptr_len _ _ _
  · have : l.length = 0 := by omega
    rw [this, kptrA_zero]; rfl
theorem kptrA_stk {W : World} {hi : Nat} {A : Option Addr} {l : List Bx} (h : Kids W 0 hi A l) : Stk W hi (kptrA A l.length) l := by
  by_cases h0 : 0 < l.length
  · obtain ⟨b, off, _, _, _, _, rfl, _⟩ := h.at h0
    have := kptr_stk h l.length (Nat.le_refl _)
    rw [List.take_length] at this
    exact this
  · have h1 : l = [] := List.eq_nil_of_length_eq_zero (by omega)
    subst h1
    rw [show (([] : List Bx).length) = 0 from rfl, kptrA_zero]
    exact trivial
theorem pop_take (vs' : List Value) (v : Value) : (vs' ++ [v]).take ((vs' ++ [v]).length - 1) = vs' := by simp
theorem cntL_one (t : Bx) : cntL [t] = cntB t := by rw [cntL_cons, cntL_nil]; rfl
set_option maxRecDepth 100000 in
set_option maxHeartbeats 2000000 in
theorem bcount_any (t : Bx) (A : Option Addr) (c : Nat) (A' : Option Addr) (c' : Nat) (w : World) (hl : lens t) (hc : cntB t ≤ 100000) (hK : Kids w 0 w.heap.size A t.kids) (hI : Ints w 0 w.heap.size A' t.src) :
    Calls Try.prog 24 #[.agg (bxA t A c A' c')] w fun e w' => e = .returned (.int .i64 (cntB t : Int)) ∧ Below w.heap.size w w' := by
  obtain ⟨i0, hi0, hz0, hz1, hz2⟩ := info_parts infoPtr
  have hd0 : ((w.alloc (.cells (bxA t A c A' c') 25)).alloc (.cells #[.pointer (some ⟨w.heap.size, 0, none⟩)] 48)).heap[w.heap.size]? = some (.cells (bxA t A c A' c') 25 (0, 0)) := blk_more (blk_new _ _) _
  have hd1 : ((w.alloc (.cells (bxA t A c A' c') 25)).alloc (.cells #[.pointer (some ⟨w.heap.size, 0, none⟩)] 48)).heap[w.heap.size + 1]? = some (.cells #[.pointer (some ⟨w.heap.size, 0, none⟩)] 48 (0, 0)) := by
    have := blk_new (w.alloc (.cells (bxA t A c A' c') 25)) (.cells #[.pointer (some ⟨w.heap.size, 0, none⟩)] 48)
    rw [World.size_alloc] at this
    exact this
  have hb := two_below w (.cells (bxA t A c A' c') 25) (.cells #[.pointer (some ⟨w.heap.size, 0, none⟩)] 48)
  have hent : Ent ((w.alloc (.cells (bxA t A c A' c') 25)).alloc (.cells #[.pointer (some ⟨w.heap.size, 0, none⟩)] 48)) (w.heap.size + 1) (.pointer (some ⟨w.heap.size, 0, none⟩)) t :=
    ⟨w.heap.size, 0, A, c, A', c', rfl, by omega, fun j hj => by rw [Nat.zero_add]; exact cell_of_row _ _ _ _ _ _ hd0, (hK.low hb).mono (Nat.le_refl _) (by omega), (hI.below hb).mono (Nat.le_refl _) (by omega), hl⟩
  have hrow := own_one (size := 1) hd1 rfl
  have hsz : ((w.alloc (.cells (bxA t A c A' c') 25)).alloc (.cells #[.pointer (some ⟨w.heap.size, 0, none⟩)] 48)).heap.size = w.heap.size + 2 := by simp
  have HE := Lib.hid hent
  have HROW := Lib.hid hrow
  have HB := Lib.hid hb
  have HSZ := Lib.hid hsz
  clear hd0 hd1 hb hent hrow hsz hK hI
  go_enter Try.func24, Try.ntmps24
  go_wp2_with fail
  generalize ((w.alloc (.cells (bxA t A c A' c') 25)).alloc (.cells #[.pointer (some ⟨w.heap.size, 0, none⟩)] 48)) = W0 at HE HROW HB HSZ ⊢
  go_loopw [3, 4] (fun v l wr => ∃ (n : Nat) (S : List Bx) (vs : List Value) (g : Addr) (cp : Nat), v = .int .i64 (n : Int) ∧ l = .slice (some g) vs.length cp ∧ wr.ownsRow (w.heap.size + 1) 48 1 (.slice (some g) vs.length cp) vs.length vs ∧ Stk W0 (w.heap.size + 1) vs S ∧ n + cntL S = cntB t ∧ Below (w.heap.size + 1) W0 wr) (fun v _ _ => cntB t + 1 - (intOf v).toNat)
  case atStart => exact ⟨0, [t], [.pointer (some ⟨w.heap.size, 0, none⟩)], _, 1, rfl, rfl, HROW.out, Stk.one HE.out, by rw [cntL_one]; omega, Below.refl _ _⟩
  case round =>
    obtain ⟨n, S, vs, g, cp, rfl, rfl, hrow, hstk, hcnt, hbw⟩ := hrel
    by_cases h0 : 0 < vs.length
    · obtain ⟨vs', v, S', u, rfl, rfl, hst', hent⟩ := hstk.last h0
      obtain ⟨b, o, A1, c1, A2, c2, rfl, hb, hat, hk1, hi1, hl1⟩ := hent
      have hu := cntB_eq u
      have hun := cnt_len u.kids
      rw [cntL_append, cntL_one] at hcnt
      obtain ⟨gb, e, hgb, hgl, hcap, hcell⟩ := own_cell hrow h0
      injection e with e
      subst e
      have htk := own_take hrow (m := vs'.length) (by simp) (by simp)
      obtain ⟨m, hm⟩ : ∃ m, vs'.length = m := ⟨_, rfl⟩
      have hl2 : (vs' ++ [Value.pointer (some ⟨b, o, none⟩)]).length = m + 1 := by rw [List.length_append, hm]; rfl
      have hx := hcell m (.pointer (some ⟨b, o, none⟩)) (by rw [← hm]; simp)
      rw [hm, Nat.mul_one] at htk
      rw [show (vs' ++ [Value.pointer (some ⟨b, o, none⟩)]).take m = vs' by rw [← hm]; simp] at htk
      rw [hl2] at hcap ⊢
      have HTK := Lib.hid htk
      have HST := Lib.hid hst'
      have HBW := Lib.hid hbw
      have HK1 := Lib.hid hk1
      have HM := Lib.hid hm
      have HCN := Lib.hid hcnt
      have e8 := ((hat.below hbw hb).cells).2.2.2.2.2.2.2.2.1
      have hmb : m ≤ 100000 := by have := hst'.len; have := cnt_len S'; omega
      have s2 : IntKind.i64.wrap ((n : Int) + 1) = ((n + 1 : Nat) : Int) := by rw [IntWalk.i64_in _ (by omega)]; rfl
      have HAT := Lib.hid hat
      have hub : u.kids.length ≤ 100000 := by omega
      have HU := Lib.hid hu
      clear hcell hrow hst' hbw hk1 hi1 hl1 hat htk hm hl2 hstk hu hcnt hun
      rename World => wo
      go_wp2_with fail
      go_loopw [4, 29] (fun l q wr => ∃ (i : Nat) (g3 : Addr) (c3 : Nat), i ≤ u.kids.length ∧ q = .int .i64 (i : Int) ∧ l = .slice (some g3) (m + i) c3 ∧ wr.ownsRow (w.heap.size + 1) 48 1 (.slice (some g3) (m + i) c3) (m + i) (vs' ++ kptrA A1 i) ∧ Below (w.heap.size + 1) W0 wr) (fun _ q _ => u.kids.length - (intOf q).toNat)
      case atStart => exact ⟨0, _, _, Nat.zero_le _, rfl, rfl, by rw [kptrA_zero, List.append_nil]; exact HTK.out, HBW.out⟩
      case round =>
        obtain ⟨i, g3, c3, hi, rfl, rfl, hrow, hbw⟩ := hrel
        have HO := Lib.hid hrow
        have HBX := Lib.hid hbw
        have hsz : w.heap.size + 1 ≤ wr.heap.size := by have := hbw.size; have := HSZ.out; omega
        clear hrow hbw
        by_cases hlt : i < u.kids.length
        · have e8 := ((HAT.out.below HBX.out hb).cells).2.2.2.2.2.2.2.2.1
          obtain ⟨kb, ko, _, _, _, _, rfl, _⟩ := HK1.out.at hlt
          have HKS : Hid (kptrA (some ⟨kb, ko, none⟩) (i + 1) = kptrA (some ⟨kb, ko, none⟩) i ++ [.pointer (some ⟨kb, ko + i * 11, none⟩)]) := kptr_succ _ _ _
          go_wp2_with (at_builtin; refine wpList_append_el rfl _ _ 61 48 rfl i0 _ 1 8 Try.underlying61 hi0 hz0 hz1 hz2 rfl (by omega) rfl (own_below HO.out (one_below _ _)) rfl (heap_alloc_new _ _) rfl (fun u hu => by simp at hu; subst hu; rfl) (by unfold maxLen; omega) (by omega) (by simp; omega) ?_; intro A5 c5 w5 hown5 hb5; have HO5 := Lib.hid hown5; have HB5 := Lib.hid hb5; clear hown5 hb5)
          obtain ⟨g5, e5, _⟩ := own_cell HO5.out (by omega)
          subst e5
          go_roundw
          case rel => exact ⟨i + 1, _, _, by omega, by go_num, rfl, by rw [HKS.out, ← List.append_assoc]; exact HO5.out, (HBX.out.alloc hsz _).trans HB5.out⟩
          case measure => simp [intOf]; omega
        · obtain rfl : i = u.kids.length := by omega
          have HV : Hid ((vs' ++ kptrA A1 u.kids.length).length = m + u.kids.length) := by
            show _ = _
            rw [List.length_append, HM.out, kptrA_len HK1.out]
          have HS2 : Hid (Stk W0 (w.heap.size + 1) (vs' ++ kptrA A1 u.kids.length) (S' ++ u.kids)) := HST.out.append (kptrA_stk HK1.out)
          have HC2 : Hid (n + 1 + cntL (S' ++ u.kids) = cntB t) := by
            show _ = _
            have := HCN.out
            have := HU.out
            rw [cntL_append]
            omega
          go_wp2_with fail
          go_roundw
          case rel => exact ⟨n + 1, S' ++ u.kids, vs' ++ kptrA A1 u.kids.length, g3, c3, by go_num, by rw [HV.out], by rw [HV.out]; exact HO.out, HS2.out, HC2.out, HBX.out⟩
          case measure => have := HCN.out; simp [intOf]; omega
    · have hz : vs.length = 0 := by omega
      have hS : S = [] := List.eq_nil_of_length_eq_zero (by rw [← hstk.len]; exact hz)
      have hn : (n : Int) = (cntB t : Int) := by rw [hS, cntL_nil] at hcnt; omega
      rw [hz, hn]
      have HBW := Lib.hid hbw
      clear hrow hstk hcnt hbw hz hS hn h0
      go_wp2
      go_ret
      exact ⟨rfl, HB.out.trans (HBW.out.mono (by omega))⟩
end Go.Proofs.Ytlgnghehgcoccaa
