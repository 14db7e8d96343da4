/- Plain words and laws on pieces, lengths and demerits of lines: no program in sight. -/
namespace Go.Proofs.Ytkamffjncndabaa
/-- A piece: its width, the space ahead of it, the penalty. -/
structure Pc where
  wd : Int
  sp : Int
  pn : Int
def wdAt (ps : List Pc) (k : Nat) : Int := (ps.getD k ⟨0, 0, 0⟩).wd
def spAt (ps : List Pc) (k : Nat) : Int := (ps.getD k ⟨0, 0, 0⟩).sp
def pnAt (ps : List Pc) (k : Nat) : Int := (ps.getD k ⟨0, 0, 0⟩).pn
def okPc (p : Pc) : Bool := decide (0 ≤ p.wd ∧ p.wd ≤ 10000000 ∧ -20000 ≤ p.sp ∧ p.sp ≤ 20000 ∧ -10000 ≤ p.pn ∧ p.pn ≤ 10000)
def allOk (ps : List Pc) : Bool := ps.all okPc
def validB (ps : List Pc) : Bool := decide (1 ≤ ps.length ∧ ps.length ≤ 64) && allOk ps

theorem allOk_at {ps : List Pc} (h : allOk ps = true) {k : Nat} (hk : k < ps.length) :
    0 ≤ wdAt ps k ∧ wdAt ps k ≤ 10000000 ∧ -20000 ≤ spAt ps k ∧ spAt ps k ≤ 20000 ∧ -10000 ≤ pnAt ps k ∧ pnAt ps k ≤ 10000 := by
  unfold allOk at h
  rw [List.all_eq_true] at h
  have := h ps[k] (List.getElem_mem hk)
  unfold okPc at this
  have h2 := of_decide_eq_true this
  unfold wdAt spAt pnAt
  have e : ps.getD k ⟨0, 0, 0⟩ = ps[k] := by simp [List.getD, hk]
  rw [e]
  exact h2

theorem validB_iff {ps : List Pc} : validB ps = true ↔ (1 ≤ ps.length ∧ ps.length ≤ 64) ∧ allOk ps = true := by
  unfold validB
  rw [Bool.and_eq_true, decide_eq_true_iff]

theorem allOk_take_succ {ps : List Pc} {k : Nat} (hk : k < ps.length) : allOk (ps.take (k + 1)) = (allOk (ps.take k) && okPc ps[k]) := by
  unfold allOk
  rw [List.take_succ_eq_append_getElem hk, List.all_append]
  simp

/-- The length of c pieces from piece i on, on one line. -/
def lenR (ps : List Pc) (i : Nat) : Nat → Int
  | 0 => 0
  | c + 1 => (if c = 0 then 0 else lenR ps i c + spAt ps (i + c)) + wdAt ps (i + c)
def lenL (ps : List Pc) (i j : Nat) : Int := lenR ps i (j - i)

theorem lenR_bound {ps : List Pc} (h : allOk ps = true) (i : Nat) : ∀ c : Nat, i + c ≤ ps.length → -20000 * (c : Int) ≤ lenR ps i c ∧ lenR ps i c ≤ 10020000 * (c : Int)
  | 0, _ => by simp [lenR]
  | c + 1, hc => by
    have ih := lenR_bound h i c (by omega)
    have hb := allOk_at h (k := i + c) (by omega)
    unfold lenR
    split <;> omega

theorem lenL_bound {ps : List Pc} (h : validB ps = true) {i j : Nat} (hj : j ≤ ps.length) : -1280000 ≤ lenL ps i j ∧ lenL ps i j ≤ 641280000 := by
  have h' := validB_iff.1 h
  unfold lenL
  by_cases hi : i ≤ ps.length
  · have := lenR_bound h'.2 i (min (j - i) (ps.length - i)) (by omega)
    have e : min (j - i) (ps.length - i) = j - i := by omega
    rw [e] at this
    omega
  · have e : j - i = 0 := by omega
    rw [e]
    simp [lenR]

/-- What a line has of demerits beside its penalty; and its demerits; and whether it is legal. -/
def badV (ps : List Pc) (i j : Nat) (w : Int) : Int :=
  if w - lenL ps i j < 0 then 20000 - (w - lenL ps i j)
  else if j < ps.length then min (100 * (w - lenL ps i j) / w) 100 * min (100 * (w - lenL ps i j) / w) 100 else 0
def demV (ps : List Pc) (i j : Nat) (w : Int) : Int := 100 + (if 0 < i then pnAt ps i else 0) + badV ps i j w
def legV (ps : List Pc) (i j : Nat) (w : Int) : Bool := decide (lenL ps i j ≤ w) || decide (j = i + 1)

theorem sq_bound {r : Int} (h0 : 0 ≤ r) (h1 : r ≤ 100) : 0 ≤ r * r ∧ r * r ≤ 10000 := by
  constructor
  · exact Int.mul_nonneg h0 h0
  · have := Int.mul_le_mul h1 h1 h0 (by omega : (0 : Int) ≤ 100)
    omega

theorem badV_bound {ps : List Pc} (h : validB ps = true) {i j : Nat} (hj : j ≤ ps.length) {w : Int} (hw : 1 ≤ w) (hw2 : w ≤ 10000000) :
    0 ≤ badV ps i j w ∧ badV ps i j w ≤ 641300000 := by
  have hl := lenL_bound h (i := i) hj
  unfold badV
  split
  · omega
  · split
    · have h0 : 0 ≤ 100 * (w - lenL ps i j) / w := Int.ediv_nonneg (by omega) (by omega)
      have := sq_bound (r := min (100 * (w - lenL ps i j) / w) 100) (by omega) (by omega)
      omega
    · omega

theorem demV_bound {ps : List Pc} (h : validB ps = true) {i j : Nat} (hi : i < ps.length) (hj : j ≤ ps.length) {w : Int} (hw : 1 ≤ w) (hw2 : w ≤ 10000000) :
    -9900 ≤ demV ps i j w ∧ demV ps i j w ≤ 641320000 := by
  have hb := badV_bound h (i := i) hj hw hw2
  have hp := allOk_at (validB_iff.1 h).2 hi
  unfold demV
  split <;> omega

/-- What Length and Line answer. -/
def lenE (ps : List Pc) (i j : Int) : Int :=
  if validB ps = true then (if i < 0 ∨ j ≤ i ∨ (ps.length : Int) < j then 2 else 0) else 1
def lenN (ps : List Pc) (i j : Int) : Int := if lenE ps i j = 0 then lenL ps i.toNat j.toNat else 0
def widB (w : Int) : Bool := decide (1 ≤ w ∧ w ≤ 10000000)
def lineE (ps : List Pc) (i j w : Int) : Int :=
  if validB ps = true ∧ widB w = true then
    (if i < 0 ∨ j ≤ i ∨ (ps.length : Int) < j then 2 else if legV ps i.toNat j.toNat w = true then 0 else 6)
  else 1
def lineN (ps : List Pc) (i j w : Int) : Int := if lineE ps i j w = 0 then demV ps i.toNat j.toNat w else 0

/-- Starts, and the sum of the demerits of their lines. -/
def fitsB (w ind : Int) : Bool := decide (1 ≤ w ∧ w ≤ 10000000) && decide (0 ≤ ind ∧ ind < w)
def lAt (l : List Int) (k : Nat) : Int := l.getD k 0
/-- Element k of a list of starts of n pieces is as it should be. -/
def okSt (n : Nat) (l : List Int) (k : Nat) : Bool := decide (lAt l k < n) && (decide (k = 0) || decide (lAt l (k - 1) < lAt l k))
def okSts (n : Nat) (l : List Int) : Nat → Bool
  | 0 => true
  | k + 1 => okSts n l k && okSt n l k
def startsB (n : Nat) (l : List Int) : Bool := decide (0 < l.length) && decide (lAt l 0 = 0) && okSts n l l.length
def endAt (n : Nat) (l : List Int) (k : Nat) : Int := if k + 1 < l.length then lAt l (k + 1) else n
def widAt (w ind : Int) (k : Nat) : Int := if k = 0 then w else w - ind
/-- The sum of the demerits of the first k lines; whether all of these are legal. -/
def totS (ps : List Pc) (l : List Int) (w ind : Int) : Nat → Int
  | 0 => 0
  | k + 1 => totS ps l w ind k + demV ps (lAt l k).toNat (endAt ps.length l k).toNat (widAt w ind k)
def totL (ps : List Pc) (l : List Int) (w ind : Int) : Nat → Bool
  | 0 => true
  | k + 1 => totL ps l w ind k && legV ps (lAt l k).toNat (endAt ps.length l k).toNat (widAt w ind k)
def totE (ps : List Pc) (l : List Int) (w ind : Int) : Int :=
  if validB ps = true ∧ fitsB w ind = true then (if startsB ps.length l = true then (if totL ps l w ind l.length = true then 0 else 6) else 4) else 1
def totN (ps : List Pc) (l : List Int) (w ind : Int) : Int := if totE ps l w ind = 0 then totS ps l w ind l.length else 0

theorem okSts_at {n : Nat} {l : List Int} : ∀ {m : Nat}, okSts n l m = true → ∀ {k : Nat}, k < m → okSt n l k = true
  | 0, _, _, hk => by omega
  | m + 1, h, k, hk => by
    unfold okSts at h
    rw [Bool.and_eq_true] at h
    by_cases e : k = m
    · rw [e]; exact h.2
    · exact okSts_at h.1 (by omega)
theorem okSt_iff {n : Nat} {l : List Int} {k : Nat} : okSt n l k = true ↔ lAt l k < n ∧ (k = 0 ∨ lAt l (k - 1) < lAt l k) := by
  unfold okSt
  simp
theorem startsB_iff {n : Nat} {l : List Int} : startsB n l = true ↔ 0 < l.length ∧ lAt l 0 = 0 ∧ okSts n l l.length = true := by
  unfold startsB
  simp [and_assoc]
theorem st_ge {n : Nat} {l : List Int} (h : startsB n l = true) : ∀ {k : Nat}, k < l.length → (k : Int) ≤ lAt l k
  | 0, _ => by rw [(startsB_iff.1 h).2.1]; simp
  | k + 1, hk => by
    have ih := st_ge h (k := k) (by omega)
    have := (okSt_iff.1 (okSts_at (startsB_iff.1 h).2.2 hk)).2
    simp at this
    omega
theorem st_lt {n : Nat} {l : List Int} (h : startsB n l = true) {k : Nat} (hk : k < l.length) : lAt l k < n := (okSt_iff.1 (okSts_at (startsB_iff.1 h).2.2 hk)).1
theorem st_mono {n : Nat} {l : List Int} (h : startsB n l = true) {k : Nat} (hk : k + 1 < l.length) : lAt l k < lAt l (k + 1) := by
  have := (okSt_iff.1 (okSts_at (startsB_iff.1 h).2.2 hk)).2
  simpa using this
theorem st_end {n : Nat} {l : List Int} (h : startsB n l = true) {k : Nat} (hk : k < l.length) : lAt l k < endAt n l k ∧ endAt n l k ≤ n := by
  unfold endAt
  split
  · rename_i h2
    have := st_mono h h2
    have := st_lt h h2
    omega
  · have := st_lt h hk
    omega
theorem st_len {n : Nat} {l : List Int} (h : startsB n l = true) : l.length ≤ n := by
  have h0 := (startsB_iff.1 h).1
  have h1 := st_ge h (k := l.length - 1) (by omega)
  have h2 := st_lt h (k := l.length - 1) (by omega)
  omega
theorem widAt_bound {w ind : Int} (h : fitsB w ind = true) (k : Nat) : 1 ≤ widAt w ind k ∧ widAt w ind k ≤ 10000000 := by
  unfold fitsB at h
  simp at h
  unfold widAt
  split <;> omega
theorem totS_bound {ps : List Pc} {l : List Int} {w ind : Int} (hv : validB ps = true) (hf : fitsB w ind = true) (hs : startsB ps.length l = true) :
    ∀ k : Nat, k ≤ l.length → -9900 * (k : Int) ≤ totS ps l w ind k ∧ totS ps l w ind k ≤ 641320000 * (k : Int)
  | 0, _ => by simp [totS]
  | k + 1, hk => by
    have ih := totS_bound hv hf hs k (by omega)
    have h1 := st_lt hs (k := k) (by omega)
    have h2 := st_end hs (k := k) (by omega)
    have h3 := widAt_bound hf k
    have h4 := st_ge hs (k := k) (by omega)
    have := demV_bound hv (i := (lAt l k).toNat) (j := (endAt ps.length l k).toNat) (by omega) (by omega) h3.1 h3.2
    unfold totS
    omega
end Go.Proofs.Ytkamffjncndabaa
