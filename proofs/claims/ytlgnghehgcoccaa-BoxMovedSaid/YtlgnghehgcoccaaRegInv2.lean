/- A region that draws its order: an invariant over the set of the operations that have come up, asked of each operation alone (edges that do not bind may look ahead). -/
import Derived.OrdersIn
import Derived.Deep.Draws
namespace Go.Proofs.Ytlgnghehgcoccaa
/-- The slot of operation i: v once it has come up, u before. -/
def Slot (b : Nat → Bool) (i : Nat) (v u : Value) : Value := bif b i then v else u
/-- Operation i has come up too. -/
def upd (b : Nat → Bool) (i : Nat) : Nat → Bool := fun j => bif Nat.beq j i then true else b j
theorem Slot_true {b : Nat → Bool} {i : Nat} (v u : Value) (h : b i = true) : Slot b i v u = v := by unfold Slot; rw [h]; rfl
theorem Slot_false {b : Nat → Bool} {i : Nat} (v u : Value) (h : b i = false) : Slot b i v u = u := by unfold Slot; rw [h]; rfl
def Preds (o : Oper) (b : Nat → Bool) : Prop := ∀ e ∈ o.after, Region.binds .any e = true → b e.on = true
section
variable {F : Fence} {k : Nat} {P : Program} {ops : Array Oper} {Q : Exit → Act → World → Prop}
def opAt (F : Fence) (k : Nat) (P : Program) (ops : Array Oper) (Q : Exit → Act → World → Prop) (o : Oper) (K : Act → World → Prop) (a : Act) (w : World) : Prop :=
  if Region.wanted o (yielded ops a.tmps) = true then o.wpIn F k P a w K Q else (∀ f, o.about P w a.eval = some f → F.fn f) ∧ K (a.put o.dst undef) w
theorem opAt_plain {o : Oper} {K : Act → World → Prop} {a : Act} {w : World} (hg : o.guard = none) (h : ∀ K' : Act → World → Prop, (∀ a w, K a w → K' a w) → o.wpIn F k P a w K' Q) : opAt F k P ops Q o K a w := by
  unfold opAt
  simp only [Region.wanted, hg, if_true]
  exact h _ fun _ _ h => h
/-- What has come up has come up behind what it waits for. -/
def Closed (ops : Array Oper) (b : Nat → Bool) : Prop := ∀ i o, ops[i]? = some o → b i = true → Preds o b
theorem Preds.upd {o : Oper} {b : Nat → Bool} (h : Preds o b) (i : Nat) : Preds o (upd b i) := fun e he hb => by
  unfold Go.Proofs.Ytlgnghehgcoccaa.upd
  cases Nat.beq e.on i
  · exact h e he hb
  · rfl
theorem Closed.upd {b : Nat → Bool} {i : Nat} (h : Closed ops b) (hi : ∀ o, ops[i]? = some o → Preds o b) : Closed ops (upd b i) := fun j o ho hj => by
  cases e : Nat.beq j i with
  | true =>
    obtain rfl := Nat.eq_of_beq_eq_true e
    exact (hi o ho).upd j
  | false =>
    unfold Go.Proofs.Ytlgnghehgcoccaa.upd at hj
    rw [e] at hj
    exact (h j o ho hj).upd i
def Steps (F : Fence) (k : Nat) (P : Program) (ops : Array Oper) (Q : Exit → Act → World → Prop) (Inv : (Nat → Bool) → Act → World → Prop) : Nat → List Oper → Prop
  | _, [] => True
  | i, o :: rest => (∀ b a w, b i = false → Closed ops b → Preds o b → Inv b a w → opAt F k P ops Q o (fun a' w' => Inv (upd b i) a' w') a w) ∧ Steps F k P ops Q Inv (i + 1) rest
theorem Steps.at {Inv : (Nat → Bool) → Act → World → Prop} : ∀ (l : List Oper) (i : Nat), Steps F k P ops Q Inv i l → ∀ j o, l[j]? = some o →
    ∀ b a w, b (i + j) = false → Closed ops b → Preds o b → Inv b a w → opAt F k P ops Q o (fun a' w' => Inv (upd b (i + j)) a' w') a w
  | [], _, _, _, _, h => by simp at h
  | o :: rest, i, hs, 0, o', h => by
    simp at h
    subst h
    exact hs.1
  | o :: rest, i, hs, j + 1, o', h => by
    have := Steps.at rest (i + 1) hs.2 j o' (by simpa using h)
    rw [show i + 1 + j = i + (j + 1) by omega] at this
    exact this
def looksBack (L : List Oper) : Bool := (List.range L.length).all fun i => match L[i]? with
  | some o => o.after.all fun e => !(Region.binds .any e) || decide (e.on < i)
  | none => true
theorem looksBack_at {L : List Oper} (h : looksBack L = true) {i : Nat} {o : Oper} (ho : L[i]? = some o) : ∀ e ∈ o.after, Region.binds .any e = true → e.on < i := by
  have hi := (List.getElem?_eq_some_iff.1 ho).1
  have := List.all_eq_true.1 h i (List.mem_range.2 hi)
  rw [ho] at this
  intro e he hb
  have h2 := Array.all_eq_true'.1 this e he
  rw [hb] at h2
  exact of_decide_eq_true h2
theorem upd_set {LA : Array Bool} {i : Nat} (hi : i < LA.size) : (fun j => (LA.setIfInBounds i true).getD j false) = upd (fun j => LA.getD j false) i := by
  funext j
  unfold upd
  by_cases e : j = i
  · subst e
    simp [Array.getD, hi]
  · have : Nat.beq j i = false := by
      cases h : Nat.beq j i with
      | true => exact absurd (Nat.eq_of_beq_eq_true h) e
      | false => rfl
    rw [this]
    simp only [Array.getD_eq_getD_getElem?, cond_false]
    rw [Array.getElem?_setIfInBounds_ne (Ne.symm e)]
theorem count_set {LA : Array Bool} {i n : Nat} (hi : i < LA.size) (h : LA.getD i false = false) (hc : LA.toList.count false ≤ n + 1) : (LA.setIfInBounds i true).toList.count false ≤ n := by
  have h1 : LA.toList[i]'(by simpa using hi) = false := by simpa [Array.getD, hi] using h
  have h2 : (LA.setIfInBounds i true).toList = LA.toList.set i true := by simp
  rw [h2, List.count_set (by simpa using hi), h1]
  have e1 : ((false == false) = true) := rfl
  have e2 : ¬ (true == false) = true := by simp
  rw [if_pos e1, if_neg e2]
  omega
theorem anyIn_inv {L : List Oper} {Inv : (Nat → Bool) → Act → World → Prop} (hB : looksBack L = true) (hs : Steps F k P L.toArray Q Inv 0 L)
    (hd : ∀ b a w, (∀ i, i < L.length → b i = true) → Inv b a w → Q .normal a w) :
    ∀ (fuel : Nat) (LA : Array Bool) (a : Act) (w : World), LA.size = L.length → LA.toList.count false ≤ fuel → Closed L.toArray (fun i => LA.getD i false) → Inv (fun i => LA.getD i false) a w → wpAnyIn F k P .any L.toArray Q fuel LA a w := by
  have hget : ∀ i : Nat, L.toArray[i]? = L[i]? := fun i => List.getElem?_toArray
  have hall : ∀ LA : Array Bool, LA.size = L.length → Region.ready .any L.toArray LA = [] → ∀ i, i < L.length → LA.getD i false = true := by
    intro LA hsz h0 i
    induction i using Nat.strongRecOn with
    | _ i ih =>
      intro hi
      cases hl : LA.getD i false with
      | true => rfl
      | false =>
        exfalso
        have ho : L[i]? = some L[i] := List.getElem?_eq_getElem hi
        have : i ∈ Region.ready .any L.toArray LA := by
          rw [mem_ready, hget]
          refine ⟨?_, _, ho, fun e hm hbd => ?_⟩
          · have hi' : i < LA.size := by omega
            simp [Array.getD, hi'] at hl ⊢
            exact hl
          · have := looksBack_at hB ho e hm hbd
            exact ih e.on this (by omega)
        rw [h0] at this
        cases this
  intro fuel
  induction fuel with
  | zero =>
    intro LA a w hsz hc hcl hI
    have hrd : Region.ready .any L.toArray LA = [] := by
      rw [List.eq_nil_iff_forall_not_mem]
      intro i hi
      obtain ⟨h1, o, ho, _⟩ := mem_ready.1 hi
      rw [hget] at ho
      have hi' := (List.getElem?_eq_some_iff.1 ho).1
      have hi2 : i < LA.size := by omega
      have h2 : false ∈ LA.toList := by
        simp [Array.getD, hi2] at h1
        rw [← h1]
        simp
      have := List.count_pos_iff.2 h2
      omega
    exact ⟨hrd, hd _ _ _ (hall LA hsz hrd) hI⟩
  | succ fuel ih =>
    intro LA a w hsz hc hcl hI
    refine ⟨fun h0 => hd _ _ _ (hall LA hsz h0) hI, fun i hi => ?_⟩
    obtain ⟨h1, o, ho, hp⟩ := mem_ready.1 hi
    have ho' := ho
    rw [hget] at ho'
    have hi' := (List.getElem?_eq_some_iff.1 ho').1
    have hi2 : i < LA.size := by omega
    have hf : LA.getD i false = false := by
      simp [Array.getD, hi2] at h1 ⊢
      exact h1
    have hst := Steps.at L 0 hs i o ho' (fun j => LA.getD j false) a w (by rw [Nat.zero_add]; exact hf) hcl (fun e he hb => hp e he hb) hI
    rw [Nat.zero_add] at hst
    unfold wpOpIn
    rw [ho]
    unfold opAt at hst
    have hnext : ∀ a' w', Inv (upd (fun j => LA.getD j false) i) a' w' → wpAnyIn F k P .any L.toArray Q fuel (LA.setIfInBounds i true) a' w' := fun a' w' h => by
      refine ih _ _ _ (by simpa using hsz) (count_set hi2 hf hc) ?_ ?_
      · rw [upd_set hi2]
        exact hcl.upd fun o' ho2 => by
          rw [ho] at ho2
          cases ho2
          exact fun e he hb => hp e he hb
      · rw [upd_set hi2]
        exact h
    by_cases hw : Region.wanted o (yielded L.toArray a.tmps) = true
    · simp only [hw, if_true] at hst ⊢
      exact Oper.wpIn_mono hnext hst
    · simp only [hw] at hst ⊢
      exact ⟨hst.1, hnext _ _ hst.2⟩
/-- The region's rule. -/
theorem wpIn_region_inv {id : Nat} {L : List Oper} {a : Act} {w : World} (Inv : (Nat → Bool) → Act → World → Prop) (hm : P.follows .mixedOrders = true) (hB : looksBack L = true)
    (h0 : Inv (fun _ => false) a w.drew) (hs : Steps F k P L.toArray Q Inv 0 L) (hd : ∀ b a w, (∀ i, i < L.length → b i = true) → Inv b a w → Q .normal a w) :
    (Code.region id L.toArray true).wpIn F k P Q a w := by
  refine wpIn_region_any hm ?_
  refine anyIn_inv hB hs hd _ _ _ _ (by simp) (by simp) (fun i o _ h => ?_) ?_
  · exfalso
    simp only [Array.getD] at h
    split at h <;> simp at h
  have : (fun i => (Array.replicate L.toArray.size false).getD i false) = fun _ => false := by
    funext i
    simp only [Array.getD]
    split <;> simp
  rw [this]
  exact h0
end
/-- One of three worlds. -/
def wsel (c d : Bool) (w1 w2 w3 : World) : World := bif d then w3 else bif c then w2 else w1
end Go.Proofs.Ytlgnghehgcoccaa
