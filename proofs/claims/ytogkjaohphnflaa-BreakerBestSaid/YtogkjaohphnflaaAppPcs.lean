/- A copy of pieces in a block of the call's own, and stores of penalties into it. -/
import Derived.Test.YtogkjaohphnflaaAppCopy
import Derived.Test.YtogkjaohphnflaaBrkAdd
namespace Go.Proofs.Ytogkjaohphnflaa
open Go.RowKit
def pcCell (ps : List Pc) (j : Nat) : Value := .int .i64 (if j % 3 = 0 then wdAt ps (j / 3) else if j % 3 = 1 then spAt ps (j / 3) else pnAt ps (j / 3))
def pcsV (ps : List Pc) : List Value := (List.range (ps.length * 3)).map (pcCell ps)
theorem pcsV_len (ps : List Pc) : (pcsV ps).length = ps.length * 3 := by simp [pcsV]
theorem pcsV_at {ps : List Pc} {j : Nat} {u : Value} (h : (pcsV ps)[j]? = some u) : j < ps.length * 3 ∧ u = pcCell ps j := by
  unfold pcsV at h
  rw [List.getElem?_map] at h
  obtain ⟨k, hk, rfl⟩ := Option.map_eq_some_iff.1 h
  have hj := (List.getElem?_eq_some_iff.1 hk)
  obtain ⟨h1, h2⟩ := hj
  simp at h1 h2
  subst h2
  exact ⟨h1, rfl⟩
theorem pcsV_in {ps : List Pc} {j : Nat} (h : j < ps.length * 3) : (pcsV ps)[j]? = some (pcCell ps j) := by
  unfold pcsV
  simp [h]
theorem pcCell0 (ps : List Pc) (k : Nat) : pcCell ps (k * 3) = .int .i64 (wdAt ps k) := by unfold pcCell; rw [if_pos (by omega), show k * 3 / 3 = k by omega]
theorem pcCell1 (ps : List Pc) (k : Nat) : pcCell ps (k * 3 + 1) = .int .i64 (spAt ps k) := by unfold pcCell; rw [if_neg (by omega), if_pos (by omega), show (k * 3 + 1) / 3 = k by omega]
theorem pcCell2 (ps : List Pc) (k : Nat) : pcCell ps (k * 3 + 2) = .int .i64 (pnAt ps k) := by unfold pcCell; rw [if_neg (by omega), if_neg (by omega), show (k * 3 + 2) / 3 = k by omega]
theorem pcs_src {w : World} {B : Nat} {A : Option Addr} {ps : List Pc} (h : Pcs w B A ps) : 0 < ps.length → ∃ b off, A = some ⟨b, off, none⟩ ∧ ∀ j u, (pcsV ps)[j]? = some u → w.cell? ⟨b, off + j, none⟩ = some u := fun h0 => by
  obtain ⟨b, off, rfl, _, hc⟩ := h h0
  refine ⟨b, off, rfl, fun j u hu => ?_⟩
  obtain ⟨hj, rfl⟩ := pcsV_at hu
  obtain ⟨c0, c1, c2⟩ := hc (j / 3) (by omega)
  unfold pcCell
  rcases (by omega : j % 3 = 0 ∨ j % 3 = 1 ∨ j % 3 = 2) with e | e | e
  · rw [if_pos e]; rw [show off + j = off + j / 3 * 3 by omega]; exact c0
  · rw [if_neg (by omega), if_pos e]; rw [show off + j = off + j / 3 * 3 + 1 by omega]; exact c1
  · rw [if_neg (by omega), if_neg (by omega)]; rw [show off + j = off + j / 3 * 3 + 2 by omega]; exact c2
theorem pcsV_one (ps : List Pc) : ∀ u ∈ pcsV ps, u.oneCell' = true := fun u hu => by
  unfold pcsV at hu
  obtain ⟨j, _, rfl⟩ := List.mem_map.1 hu
  rfl
/-- The cells hold the pieces. -/
def PcsC (cur : Array Value) (ps : List Pc) : Prop := ∀ k, k < ps.length → cur[k * 3]? = some (.int .i64 (wdAt ps k)) ∧ cur[k * 3 + 1]? = some (.int .i64 (spAt ps k)) ∧ cur[k * 3 + 2]? = some (.int .i64 (pnAt ps k))
/-- A block of the call's own, from g on, holds the pieces. -/
def PcsB (W : World) (g : Nat) (e : TypeId) (A : Option Addr) (ps : List Pc) : Prop := 0 < ps.length → ∃ (b : Nat) (cur : Array Value), A = some ⟨b, 0, none⟩ ∧ g ≤ b ∧ W.heap[b]? = some (.cells cur e (0, 0)) ∧ PcsC cur ps
theorem PcsB.pcs {W : World} {g : Nat} {e : TypeId} {A : Option Addr} {ps : List Pc} (h : PcsB W g e A ps) : Pcs W W.heap.size A ps := fun h0 => by
  obtain ⟨b, cur, rfl, _, hb, hc⟩ := h h0
  refine ⟨b, 0, rfl, (Array.getElem?_eq_some_iff.1 hb).1, fun k hk => ?_⟩
  rw [Nat.zero_add]
  exact ⟨blk_cell hb _ _ (hc k hk).1, blk_cell hb _ _ (hc k hk).2.1, blk_cell hb _ _ (hc k hk).2.2⟩
theorem PcsB.of {W : World} {g : Nat} {e : TypeId} {A : Option Addr} {ps : List Pc} (h : Copied g e (pcsV ps) ps.length A W) : PcsB W g e A ps := fun h0 => by
  obtain ⟨b, cur, rfl, hg, hb, hc⟩ := h h0
  refine ⟨b, cur, rfl, hg, hb, fun k hk => ⟨?_, ?_, ?_⟩⟩
  · rw [← pcCell0]; exact hc _ _ (pcsV_in (by omega))
  · rw [← pcCell1]; exact hc _ _ (pcsV_in (by omega))
  · rw [← pcCell2]; exact hc _ _ (pcsV_in (by omega))
def setPn (ps : List Pc) (k : Nat) (x : Int) : List Pc := ps.set k ⟨wdAt ps k, spAt ps k, x⟩
theorem setPn_len (ps : List Pc) (k : Nat) (x : Int) : (setPn ps k x).length = ps.length := by simp [setPn]
theorem setPn_at (ps : List Pc) (k : Nat) (x : Int) (m : Nat) (hm : m < ps.length) : (setPn ps k x).getD m ⟨0, 0, 0⟩ = if m = k then ⟨wdAt ps k, spAt ps k, x⟩ else ps.getD m ⟨0, 0, 0⟩ := by
  unfold setPn
  by_cases e : m = k
  · subst e; simp [List.getD, hm]
  · rw [if_neg e]
    simp [List.getD, Ne.symm e]
theorem setPn_wd (ps : List Pc) (k : Nat) (x : Int) (m : Nat) (hm : m < ps.length) : wdAt (setPn ps k x) m = wdAt ps m ∧ spAt (setPn ps k x) m = spAt ps m ∧ pnAt (setPn ps k x) m = if m = k then x else pnAt ps m := by
  have h := setPn_at ps k x m hm
  unfold wdAt spAt pnAt
  rw [h]
  by_cases e : m = k
  · subst e; rw [if_pos rfl, if_pos rfl]; exact ⟨rfl, rfl, rfl⟩
  · rw [if_neg e, if_neg e]; exact ⟨rfl, rfl, rfl⟩
theorem PcsC.set {cur : Array Value} {ps : List Pc} (h : PcsC cur ps) {k : Nat} (hk : k < ps.length) (x : Int) : PcsC (cur.setIfInBounds (k * 3 + 2) (.int .i64 x)) (setPn ps k x) := fun m hm => by
  rw [setPn_len] at hm
  obtain ⟨e0, e1, e2⟩ := setPn_wd ps k x m hm
  obtain ⟨h0, h1, h2⟩ := h m hm
  have b2 := (Array.getElem?_eq_some_iff.1 h2).1
  rw [e0, e1, e2]
  simp only [Array.getElem?_setIfInBounds]
  by_cases e : m = k
  · subst e
    refine ⟨?_, ?_, ?_⟩
    · rw [if_neg (by omega)]; exact h0
    · rw [if_neg (by omega)]; exact h1
    · rw [if_pos rfl, if_pos b2, if_pos rfl]
  · refine ⟨?_, ?_, ?_⟩
    · rw [if_neg (by omega)]; exact h0
    · rw [if_neg (by omega)]; exact h1
    · rw [if_neg (by omega), if_neg e]; exact h2
theorem ext_getD {a b : List Pc} (hl : a.length = b.length) (h : ∀ m, m < a.length → a.getD m ⟨0, 0, 0⟩ = b.getD m ⟨0, 0, 0⟩) : a = b := by
  refine List.ext_getElem hl fun m h1 h2 => ?_
  have := h m h1
  simpa [List.getD, h1, h2] using this
theorem addPn_next (ps : List Pc) (d : Int) {k : Nat} (hk : k < ps.length) : setPn (addPn ps d k) k (pnAt ps k + d) = addPn ps d (k + 1) := by
  refine ext_getD (by rw [setPn_len, addPn_len, addPn_len]) fun m hm => ?_
  rw [setPn_len, addPn_len] at hm
  rw [setPn_at _ _ _ _ (by rw [addPn_len]; exact hm), addPn_at ps d (k + 1) m hm, addPn_at ps d k m hm]
  by_cases e : m = k
  · subst e
    obtain ⟨e0, e1, _⟩ := addPn_wd ps d m m hm
    rw [if_pos rfl, if_pos (by omega), e0, e1]
  · rw [if_neg e]
    by_cases e2 : m < k
    · rw [if_pos e2, if_pos (by omega)]
    · rw [if_neg e2, if_neg (by omega)]
theorem addPn_pn (ps : List Pc) (d : Int) {k : Nat} (hk : k < ps.length) : pnAt (addPn ps d k) k = pnAt ps k := by
  have := (addPn_wd ps d k k hk).2.2
  rw [if_neg (Nat.lt_irrefl _), Int.add_zero] at this
  exact this
end Go.Proofs.Ytogkjaohphnflaa
