/- A region that draws its order, in a round of a range over a function: quiet operations in whatever order, and one operation that waits for all of them. -/
import Derived.OrdersIn
import Derived.RangeFuncCalls
import Derived.BigQuiet
namespace Go.Proofs.Ytonahgdchngabaa
section
variable {P : Program} {C : World → Prop} {Q : Exit → Act → World → Prop} {r k : Nat}
theorem Oper.roundIn_of_quiet {o : Oper} {a : Act} {w : World} {v : Value} {K : Act → World → Prop} (hd : ∀ c, o.op ≠ .defer c) (hw : C w) (h : o.quietAt P a C w v) (hk : ∀ w', C w' → K (a.put o.dst v) w') : o.wpIn (Fence.wide.inRound r) k P a w K Q := by
  refine ⟨fun _ _ => trivial, ?_⟩
  unfold Oper.quietAt at h
  show o.uponIn _ k P a K Q ((o.semAt (some r) a.eval).run P w)
  rw [Oper.semAt_eq (some r) a.eval o hd]
  generalize (execOp a.eval o).run P w = x at *
  cases x with
  | ok n w' =>
    cases n <;> simp only [Oper.quietUpon] at h <;> simp only [Oper.uponIn]
    case value u =>
      obtain ⟨e1, e2⟩ := h
      rw [e1, e2]
      exact hk _ hw
    case skip =>
      obtain ⟨e1, e2⟩ := h
      rw [e1, ← e2]
      exact hk _ hw
    case enter f args =>
      obtain ⟨e1, hc⟩ := h
      rw [e1]
      refine ⟨fun h => (by cases h), CallsIn.inRound r (callsIn_wide.2 (hc.mono fun e w'' he => ?_))⟩
      obtain ⟨he, hw''⟩ := he
      subst he
      exact hk _ hw''
  | halt x w' => simp only [Oper.quietUpon] at h
def isDefer (o : Oper) : Bool := match o.op with | .defer _ => true | _ => false
theorem isDefer_no {o : Oper} (h : isDefer o = false) : ∀ c, o.op ≠ .defer c := fun c e => by unfold isDefer at h; rw [e] at h; cases h
def guardIn (o : Oper) (n : Nat) : Bool := match o.guard with | none => true | some (j, _) => decide (j < n)
/-- Each of the first n operations looks back alone, and the last one waits for all of them. -/
def tailOk (L : List Oper) (n : Nat) : Bool :=
  decide (L.length = n + 1) && ((List.range n).all fun i => match L[i]? with
    | some o => !isDefer o && guardIn o n && (o.after.all fun e => decide (e.on < i))
    | none => false) &&
  (match L[n]? with
    | some o => o.guard.isNone && (o.after.all fun e => decide (e.on < n)) && ((List.range n).all fun i => o.after.any fun e => Region.binds .any e && decide (e.on = i))
    | none => false)
theorem take_get {L : List Oper} {n i : Nat} (h : i < n) : (L.take n).toArray[i]? = L.toArray[i]? := by simp [h]
theorem push_getD {LA : Array Bool} {n i : Nat} (hs : LA.size = n) (h : i < n) (b d : Bool) : (LA.push b).getD i d = LA.getD i d := by
  simp [Array.getD, hs, Array.getElem_push, h, Nat.lt_succ_of_lt h]
theorem push_set {LA : Array Bool} {n i : Nat} (hs : LA.size = n) (h : i < n) (b : Bool) : (LA.push b).setIfInBounds i true = (LA.setIfInBounds i true).push b := by
  subst hs
  simp [Array.setIfInBounds, h, Nat.lt_succ_of_lt h, Array.set_push]
theorem yielded_take {L : List Oper} {n j : Nat} (h : j < n) (t : Array Value) : yielded (L.take n).toArray t j = yielded L.toArray t j := by unfold yielded; rw [take_get h]
theorem wanted_take {L : List Oper} {n : Nat} {o : Oper} (h : guardIn o n = true) (t : Array Value) : Region.wanted o (yielded (L.take n).toArray t) = Region.wanted o (yielded L.toArray t) := by
  unfold Region.wanted
  unfold guardIn at h
  split
  · rfl
  · rename_i j b hg
    rw [hg] at h
    rw [yielded_take (of_decide_eq_true h)]
theorem anyIn_done {F : Fence} {md : Region.Mode} {ops : Array Oper} {listed : Array Bool} {a : Act} {w : World} (h : Region.ready md ops listed = []) (hq : Q .normal a w) : ∀ fuel, wpAnyIn F k P md ops Q fuel listed a w
  | 0 => ⟨h, hq⟩
  | fuel + 1 => ⟨fun _ => hq, fun i hi => by rw [h] at hi; cases hi⟩

theorem anyIn_of_quiet {L : List Oper} {n : Nat} {ol : Oper} {Qa : Act → Prop} (hT : tailOk L n = true) (hol : L[n]? = some ol)
    (hQ : ∀ a w, C w → Qa a → ol.wpIn (Fence.wide.inRound r) k P a w (fun a w => Q .normal a w) Q) :
    ∀ (f : Nat) (LA : Array Bool) (a : Act) (w : World), LA.size = n → C w → wpAnyQ P .any (L.take n).toArray C Qa f LA a → wpAnyIn (Fence.wide.inRound r) k P .any L.toArray Q (f + 1) (LA.push false) a w := by
  simp only [tailOk, Bool.and_eq_true, decide_eq_true_eq] at hT
  obtain ⟨⟨hlen, hfirst⟩, hlast⟩ := hT
  rw [hol] at hlast
  simp only [Bool.and_eq_true] at hlast
  obtain ⟨⟨hg, hbk⟩, hall⟩ := hlast
  have hop : ∀ i, i < n → ∃ o, L[i]? = some o ∧ isDefer o = false ∧ guardIn o n = true ∧ ∀ e ∈ o.after, e.on < i := by
    intro i hi
    have := List.all_eq_true.1 hfirst i (List.mem_range.2 hi)
    cases ho : L[i]? with
    | none => rw [ho] at this; cases this
    | some o =>
      rw [ho] at this
      simp only [Bool.and_eq_true, Bool.not_eq_true'] at this
      exact ⟨o, rfl, this.1.1, this.1.2, fun e he => of_decide_eq_true (Array.all_eq_true'.1 this.2 e he)⟩
  have hget : ∀ i : Nat, L.toArray[i]? = L[i]? := fun i => List.getElem?_toArray
  -- which may come up
  have hrdy : ∀ (LA : Array Bool), LA.size = n → ∀ i, i < n → (i ∈ Region.ready .any L.toArray (LA.push false) ↔ i ∈ Region.ready .any (L.take n).toArray LA) := by
    intro LA hs i hi
    rw [mem_ready, mem_ready, push_getD hs hi, take_get hi]
    obtain ⟨o, ho, _, _, he⟩ := hop i hi
    rw [hget, ho]
    constructor
    · rintro ⟨h1, o', e', h2⟩
      refine ⟨h1, o', e', fun e hm hb => ?_⟩
      cases e'
      have := h2 e hm hb
      rwa [push_getD hs (by have := he e hm; omega)] at this
    · rintro ⟨h1, o', e', h2⟩
      refine ⟨h1, o', e', fun e hm hb => ?_⟩
      cases e'
      have := h2 e hm hb
      rwa [push_getD hs (by have := he e hm; omega)]
  have hprog : ∀ (LA : Array Bool), LA.size = n → Region.ready .any (L.take n).toArray LA = [] → ∀ i, i < n → LA.getD i false = true := by
    intro LA hs h0 i
    induction i using Nat.strongRecOn with
    | _ i ih =>
      intro hi
      cases hl : LA.getD i false with
      | true => rfl
      | false =>
        exfalso
        obtain ⟨o, ho, _, _, he⟩ := hop i hi
        have : i ∈ Region.ready .any (L.take n).toArray LA := by
          rw [mem_ready, take_get hi, hget, ho]
          refine ⟨?_, o, rfl, fun e hm _ => ih e.on (he e hm) (by have := he e hm; omega)⟩
          have hi' : i < LA.size := by omega
          simp [Array.getD, hi'] at hl ⊢
          exact hl
        rw [h0] at this
        cases this
  have hlastrdy : ∀ (LA : Array Bool), LA.size = n → (n ∈ Region.ready .any L.toArray (LA.push false) ↔ ∀ i, i < n → LA.getD i false = true) := by
    intro LA hs
    rw [mem_ready, hget, hol]
    constructor
    · rintro ⟨_, o', e', h2⟩ i hi
      cases e'
      have := List.all_eq_true.1 hall i (List.mem_range.2 hi)
      obtain ⟨e, hm, hb⟩ := Array.any_eq_true'.1 this
      simp only [Bool.and_eq_true, decide_eq_true_eq] at hb
      have := h2 e hm hb.1
      rw [hb.2, push_getD hs hi] at this
      exact this
    · intro h
      refine ⟨by subst hs; simp [Array.getD], ol, rfl, fun e hm _ => ?_⟩
      have hlt := of_decide_eq_true (Array.all_eq_true'.1 hbk e hm)
      rw [push_getD hs hlt]
      exact h _ hlt
  have hbound : ∀ (LA : Array Bool) i, i ∈ Region.ready .any L.toArray LA → i < n + 1 := by
    intro LA i hi
    obtain ⟨_, o, ho, _⟩ := mem_ready.1 hi
    have := (Array.getElem?_eq_some_iff.1 ho).1
    simpa [hlen] using this
  have hallset : ∀ (LA : Array Bool), LA.size = n → (∀ i, i < n → LA.getD i false = true) → Region.ready .any L.toArray ((LA.push false).setIfInBounds n true) = [] := by
    intro LA hs h
    rw [List.eq_nil_iff_forall_not_mem]
    intro i hi
    have hb := hbound _ i hi
    have h1 := (mem_ready.1 hi).1
    by_cases e : i = n
    · subst e
      subst hs
      simp [Array.getD] at h1
    · have hin : i < n := by omega
      have h2 := h i hin
      have hi' : i < LA.size := by omega
      simp [Array.getD, Array.getElem_push, hs, hin, Nat.lt_succ_of_lt hin, Ne.symm e] at h1
      simp [Array.getD, hi'] at h2
      rw [h2] at h1
      cases h1
  have hgn : ol.guard = none := by simpa using hg
  have hstore : ∀ (f : Nat) (LA : Array Bool) (a : Act) (w : World), LA.size = n → (∀ i, i < n → LA.getD i false = true) → C w → Qa a → wpOpIn (Fence.wide.inRound r) k P L.toArray Q n (wpAnyIn (Fence.wide.inRound r) k P .any L.toArray Q f ((LA.push false).setIfInBounds n true)) a w := by
    intro f LA a w hs h hw hq
    unfold wpOpIn
    rw [hget, hol]
    have : Region.wanted ol (yielded L.toArray a.tmps) = true := by unfold Region.wanted; rw [hgn]
    simp only [this, if_true]
    exact Oper.wpIn_mono (fun a' w' h' => anyIn_done (hallset LA hs h) h' f) (hQ a w hw hq)
  intro f
  induction f with
  | zero =>
    intro LA a w hs hw h
    have hal := hprog LA hs h.1
    refine ⟨fun h0 => ?_, fun i hi => ?_⟩
    · have := (hlastrdy LA hs).2 hal
      rw [h0] at this
      cases this
    · by_cases e : i = n
      · subst e; exact hstore 0 LA a w hs hal hw h.2
      · have := (hrdy LA hs i (by have := hbound _ i hi; omega)).1 hi
        rw [h.1] at this
        cases this
  | succ f ih =>
    intro LA a w hs hw h
    refine ⟨fun h0 => ?_, fun i hi => ?_⟩
    · exfalso
      cases hr : Region.ready .any (L.take n).toArray LA with
      | nil =>
        have := (hlastrdy LA hs).2 (hprog LA hs hr)
        rw [h0] at this
        cases this
      | cons i l =>
        have hi : i ∈ Region.ready .any (L.take n).toArray LA := by rw [hr]; exact List.mem_cons_self
        have hin : i < n := by
          obtain ⟨_, o, ho, _⟩ := mem_ready.1 hi
          have := (Array.getElem?_eq_some_iff.1 ho).1
          simp at this
          omega
        have := (hrdy LA hs i hin).2 hi
        rw [h0] at this
        cases this
    · by_cases e : i = n
      · subst e
        have hal := (hlastrdy LA hs).1 hi
        have h0 : Region.ready .any (L.take i).toArray LA = [] := by
          rw [List.eq_nil_iff_forall_not_mem]
          intro j hj
          obtain ⟨h1, o, ho, _⟩ := mem_ready.1 hj
          have hjn : j < i := by
            have := (Array.getElem?_eq_some_iff.1 ho).1
            simp at this
            omega
          have h2 := hal j hjn
          have hj' : j < LA.size := by omega
          simp [Array.getD, hj'] at h1 h2
          rw [h2] at h1
          cases h1
        exact hstore (f + 1) LA a w hs hal hw (h.1 h0)
      · have hin : i < n := by have := hbound _ i hi; omega
        have hq := h.2 i ((hrdy LA hs i hin).1 hi)
        obtain ⟨o, ho, hd, hgd, _⟩ := hop i hin
        unfold qOp at hq
        rw [take_get hin, hget, ho] at hq
        simp only [wanted_take hgd] at hq
        unfold wpOpIn
        rw [hget, ho]
        rw [push_set hs hin]
        by_cases hwd : Region.wanted o (yielded L.toArray a.tmps) = true
        · simp only [hwd, if_true] at hq ⊢
          obtain ⟨v, h1, h2⟩ := hq
          exact Oper.roundIn_of_quiet (isDefer_no hd) hw (h1 w hw) (fun w' hw' => ih _ _ w' (by simp [hs]) hw' h2)
        · simp only [hwd] at hq ⊢
          exact ⟨fun _ _ => trivial, ih _ _ w (by simp [hs]) hw hq⟩
/-- The region's rule. -/
theorem wpIn_region_round {id : Nat} {L : List Oper} {a : Act} {w : World} (n : Nat) (ol : Oper) (C : World → Prop) (hm : P.follows .mixedOrders = true) (hB : Region.lexB .any (L.take n).toArray = true) (hT : tailOk L n = true) (hol : L[n]? = some ol)
    (hC : C { w with drawn := w.drawn + 1 }) (h : wpQuiet P (L.take n).toArray C (fun a' => ∀ w', C w' → ol.wpIn (Fence.wide.inRound r) k P a' w' (fun a w => Q .normal a w) Q) (L.take n) a) :
    (Code.region id L.toArray true).wpIn (Fence.wide.inRound r) k P Q a w := by
  have hlen : L.length = n + 1 := by
    have := hT
    simp only [tailOk, Bool.and_eq_true, decide_eq_true_eq] at this
    exact this.1.1
  refine wpIn_region_any hm ?_
  have hsz : L.toArray.size = n + 1 := by simp [hlen]
  have hl2 : (L.take n).length = n := by simp [hlen]
  have hrep : Array.replicate (n + 1) false = (Array.replicate n false).push false := by
    apply Array.ext
    · simp
    · intro i h1 h2
      simp [Array.getElem_push]
  rw [hsz, hrep]
  refine anyIn_of_quiet (Qa := fun a' => ∀ w', C w' → ol.wpIn (Fence.wide.inRound r) k P a' w' (fun a w => Q .normal a w) Q) hT hol (fun a w hw hq => hq w hw) n _ a _ (by simp) hC ?_
  simp only [Region.lexB, Bool.and_eq_true] at hB
  have hB2 := hB.2
  simp only [List.size_toArray, hl2] at hB2
  have := wpAnyQ_lex (C := C) (md := .any) (P := P) hB.1 (L.take n) 0 (Array.replicate n false) a (fun j => by simp) (by rw [hl2]; exact hB2) h
  rw [hl2] at this
  exact this
end
end Go.Proofs.Ytonahgdchngabaa
