/- A region that draws its order in a round of a range over a function: quiet operations alone, in whatever order. -/
import Derived.Test.YtkamffjncndabaaRoundQuiet
namespace Go.Proofs.Ytkamffjncndabaa
section
variable {P : Program} {C : World → Prop} {Q : Exit → Act → World → Prop} {r k : Nat}
theorem roundIn_any_quiet {ops : Array Oper} (hd : ∀ (i : Nat) (o : Oper), ops[i]? = some o → isDefer o = false) {Qa : Act → Prop} (hQ : ∀ a w, C w → Qa a → Q .normal a w) :
    ∀ (f : Nat) (LA : Array Bool) (a : Act) (w : World), C w → wpAnyQ P .any ops C Qa f LA a → wpAnyIn (Fence.wide.inRound r) k P .any ops Q f LA a w
  | 0, _, _, _, hw, h => ⟨h.1, hQ _ _ hw h.2⟩
  | f + 1, LA, a, w, hw, h => by
    refine ⟨fun h0 => hQ _ _ hw (h.1 h0), fun i hi => ?_⟩
    have hq := h.2 i hi
    unfold qOp at hq
    unfold wpOpIn
    cases ho : ops[i]? with
    | none =>
      simp only [ho] at hq ⊢
      exact roundIn_any_quiet hd hQ f _ a w hw hq
    | some o =>
      simp only [ho] at hq ⊢
      by_cases hwd : Region.wanted o (yielded ops a.tmps) = true
      · simp only [hwd, if_true] at hq ⊢
        obtain ⟨v, h1, h2⟩ := hq
        exact Oper.roundIn_of_quiet (isDefer_no (hd i o ho)) hw (h1 w hw) (fun w' hw' => roundIn_any_quiet hd hQ f _ _ w' hw' h2)
      · simp only [hwd] at hq ⊢
        exact ⟨fun _ _ => trivial, roundIn_any_quiet hd hQ f _ _ w hw hq⟩
/-- The rule. -/
theorem wpIn_region_round_still {id : Nat} {L : List Oper} {a : Act} {w : World} (C : World → Prop) (hm : P.follows .mixedOrders = true) (hB : Region.lexB .any L.toArray = true) (hd : L.all (fun o => !isDefer o) = true)
    (hC : C { w with drawn := w.drawn + 1 }) (h : wpQuiet P L.toArray C (fun a' => ∀ w', C w' → Q .normal a' w') L a) : (Code.region id L.toArray true).wpIn (Fence.wide.inRound r) k P Q a w := by
  refine wpIn_region_any hm ?_
  simp only [Region.lexB, Bool.and_eq_true] at hB
  refine roundIn_any_quiet (C := C) (Qa := fun a' => ∀ w', C w' → Q .normal a' w') (fun i o ho => ?_) (fun a w hw h => h w hw) _ _ _ _ hC ?_
  · have hm := List.mem_of_getElem? (by simpa using ho)
    have := List.all_eq_true.1 hd o hm
    simpa using this
  · have hB2 := hB.2
    simp only [List.size_toArray] at hB2
    have := wpAnyQ_lex (C := C) (md := .any) (P := P) hB.1 L 0 (Array.replicate L.length false) a (fun j => by simp) hB2 h
    simpa using this
end
end Go.Proofs.Ytkamffjncndabaa
